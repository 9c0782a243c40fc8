/-
  Arguments opened: files, and what is done with a disk.
-/
import Derived.Test.YtfpoclhenokhhaaM13
import Derived.Test.YtfpoclhenokhhaaM15
import Derived.Test.YtfpoclhenokhhaaM11
import Derived.Test.YtfpoclhenokhhaaM9
/-
  Arguments opened: files, and what is done with a disk.
-/
namespace Go.Proofs
open Go Go.Eng
set_option maxRecDepth 100000
set_option maxHeartbeats 4000000
attribute [local irreducible] Tri
open Go.WideShapes

section
variable {H : Type} {enc : TypeId × Value → H} {w : World} {base : Nat} {sp : Nat → Bool} {held : Bool}

theorem Try.file_c {n : Nat} {cs : List Value} {y : DataW H × List MemPlace} (h : DataW.trod enc Try.prog w base sp held n 56 cs = some y) : ∃ p : List UInt8 × List UInt8, cs = flC p ∧ p.1.length ≤ 9223372036854775807 ∧ p.2.length ≤ 9223372036854775807 := by
  obtain ⟨hl, n0, y0, t0⟩ := open_fld h 0 9 0 1 (by kernel_rfl)
  obtain ⟨-, n1, y1, t1⟩ := open_fld h 1 9 1 1 (by kernel_rfl)
  have hc : cs.length = 2 := by rw [hl]; kernel_rfl
  obtain ⟨l0, e0, h0⟩ := open_str_c (by kernel_rfl) t0
  obtain ⟨l1, e1, h1⟩ := open_str_c (by kernel_rfl) t1
  match cs, hc with
  | [v0, v1], _ =>
    simp at e0 e1
    subst e0; subst e1
    exact ⟨(l0, l1), rfl, h0, h1⟩
theorem Try.act_c {n : Nat} {cs : List Value} {y : DataW H × List MemPlace} (h : DataW.trod enc Try.prog w base sp held n 46 cs = some y) : ∃ e : ActE, cs = acC e ∧ ActOk w e := by
  obtain ⟨hl, n0, y0, t0⟩ := open_fld h 0 5 0 1 (by kernel_rfl)
  obtain ⟨-, n1, y1, t1⟩ := open_fld h 1 9 1 1 (by kernel_rfl)
  obtain ⟨-, n2, y2, t2⟩ := open_fld h 2 3 2 1 (by kernel_rfl)
  obtain ⟨-, n3, y3, t3⟩ := open_fld h 3 9 3 1 (by kernel_rfl)
  obtain ⟨-, n4, y4, t4⟩ := open_fld h 4 40 4 1 (by kernel_rfl)
  have hc : cs.length = 5 := by rw [hl]; kernel_rfl
  obtain ⟨k, e0, hk⟩ := open_u8_c (by kernel_rfl) t0
  obtain ⟨l1, e1, h1⟩ := open_str_c (by kernel_rfl) t1
  obtain ⟨z, e2, h2⟩ := open_i64_c (by kernel_rfl) t2
  obtain ⟨l3, e3, h3⟩ := open_str_c (by kernel_rfl) t3
  obtain ⟨a, l, c, e4, h4, h5, h6⟩ := open_i64s_c (e := 3) (by kernel_rfl) (by kernel_rfl) (by kernel_rfl) t4
  match cs, hc with
  | [v0, v1, v2, v3, v4], _ =>
    simp at e0 e1 e2 e3 e4
    subst e0; subst e1; subst e2; subst e3; subst e4
    exact ⟨⟨k, l1, z, l3, a, c, l⟩, rfl, ⟨hk, h1, h2, h3, h4, h6, h5⟩⟩

end

end Go.Proofs

/-
  Walks of layer 9's document: files used, read, set, and put.
-/
namespace Go.Proofs
open Go Go.Eng
set_option maxRecDepth 100000
set_option maxHeartbeats 4000000
attribute [local irreducible] Tri

theorem Try.rUsed_w (S : FL) (a : Option Addr) (cap : Nat) (w : World) (hlen : S.length ≤ 9223372036854775807) (hrow : SlOk w a (fl S)) (hu : sumB S ≤ 9223372036854775807) :
    Fun Try.prog 39 [.slice a S.length cap] w (.int .i64 (sumB S)) := by
  refine Tri.enter (bx := []) (hp := []) Try.func39 rfl (by kernel_rfl) rfl (Own.nil w) ?_
  refine At.run 100 true [] [] rfl (by (repeat' apply And.intro) <;> first | exact True.intro | omega | (simp only [inK]; omega) | (simp; done) | (simp; omega) | exact decide_eq_true (by omega) | exact decide_eq_false (by omega) | rfl | (simp [Value.oneCell']; done) | exact i64s_one _ | exact AggOk.mk (by kernel_rfl) (by kernel_rfl)) ?_
  refine At.loop (n := S.length) (env0 := [(0, .slice a S.length cap), (3, .int .i64 0), (4, .int .i64 0)]) (fun m env bx hp => ∃ i : Nat, m = S.length - i ∧ i ≤ S.length ∧
    env = [(0, .slice a S.length cap), (3, .int .i64 (sumB (S.take i))), (4, .int .i64 i)] ∧ bx = [] ∧ hp = []) rfl
    ⟨0, by simp, by omega, rfl, rfl, rfl⟩ ⟨rfl, rfl, rfl, trivial⟩ ?_
  rintro m env bx hp ⟨i, rfl, hi, rfl, rfl, rfl⟩ ih
  by_cases hlt : i < S.length
  · obtain ⟨p, hp⟩ : ∃ p, S[i]? = some p := ⟨_, List.getElem?_eq_getElem hlt⟩
    have hne : S ≠ [] := by intro h; rw [h] at hlt; simp at hlt
    obtain ⟨g, o, rfl, hc⟩ := hrow.get (fl_ne hne)
    have hmg : g ∉ (⟨w, kys [] []⟩ : Base).mods := by simp [kys]
    have rB : ∀ {bx : Bx} {hp : List Seg}, RdW ⟨w, kys [] []⟩ bx hp g (o + (i : Int).toNat * 2 + 1) [str p.2] := fun {_ _} => RdW.fileB hc hmg hp (by omega)
    have hs1 : sumB (S.take (i + 1)) = sumB (S.take i) + p.2.length := by rw [List.take_add_one, hp]; exact sumB_snoc _ _
    have hs2 : sumB (S.take (i + 1)) ≤ sumB S := sumB_take
    have hb2 : (bl ⟨p.2.toArray⟩).length = p.2.length := by rw [bl_of]
    refine At.run 100 true [true] [hR [str p.2]] rfl (by (repeat' apply And.intro) <;> first | exact rB | exact True.intro | omega | rfl | (simp only [inK]; omega) | exact decide_eq_true (by omega) | exact decide_eq_false (by omega) | (simp; done) | (simp; omega) | (simp [Value.oneCell']; done) | exact i64s_one _ | exact AggOk.mk (by kernel_rfl) (by kernel_rfl)) ?_
    exact At.weak (ih (S.length - (i + 1)) _ _ _ (by omega) ⟨i + 1, rfl, by omega, rfl, rfl, rfl⟩) ⟨rfl, some_int_eq (by omega), some_int_eq (by omega), trivial⟩
  · have hti : S.take i = S := List.take_of_length_le (by omega)
    rw [hti]
    refine At.run 100 true [false] [] rfl (by (repeat' apply And.intro) <;> first | exact True.intro | omega | (simp only [inK]; omega) | (simp; done) | (simp; omega) | exact decide_eq_true (by omega) | exact decide_eq_false (by omega) | rfl | (simp [Value.oneCell']; done) | exact i64s_one _ | exact AggOk.mk (by kernel_rfl) (by kernel_rfl)) ?_
    exact At.retK [] [] [] rfl rfl Try.func39 rfl trivial ⟨rfl, rfl, rfl⟩

theorem readN_drop {S : FL} {n : List UInt8} : ∀ {i : Nat}, (∀ k p, k < i → S[k]? = some p → p.1 ≠ n) → readN S n = readN (S.drop i) n
  | 0, _ => by simp
  | i + 1, h => by
    rw [readN_drop (i := i) (fun k p hk hp => h k p (by omega) hp)]
    by_cases hl : i < S.length
    · have hi := List.getElem?_eq_getElem hl
      rw [List.drop_eq_getElem_cons hl, readN_cons, if_neg (h i _ (by omega) hi)]
    · rw [List.drop_of_length_le (by omega), List.drop_of_length_le (by omega)]
theorem readN_hit {S : FL} {n : List UInt8} {i : Nat} {p : List UInt8 × List UInt8} (h : ∀ k p, k < i → S[k]? = some p → p.1 ≠ n) (hp : S[i]? = some p) (hn : p.1 = n) : readN S n = p.2 := by
  have hl := (List.getElem?_eq_some_iff.1 hp).1
  rw [readN_drop h, List.drop_eq_getElem_cons hl]
  rw [List.getElem?_eq_getElem hl] at hp
  rw [Option.some.inj hp, readN_cons, if_pos hn]
theorem Try.rRead_w (S : FL) (n : List UInt8) (a : Option Addr) (cap : Nat) (w : World) (hlen : S.length ≤ 9223372036854775807) (hrow : SlOk w a (fl S)) :
    Fun Try.prog 47 [.slice a S.length cap, str n] w (str (readN S n)) := by
  refine Tri.enter (bx := []) (hp := []) Try.func47 rfl (by kernel_rfl) rfl (Own.nil w) ?_
  refine At.run 100 true [] [] rfl (by (repeat' apply And.intro) <;> first | exact True.intro | omega | (simp only [inK]; omega) | (simp; done) | (simp; omega) | exact decide_eq_true (by omega) | exact decide_eq_false (by omega) | rfl | (simp [Value.oneCell']; done) | exact i64s_one _ | exact AggOk.mk (by kernel_rfl) (by kernel_rfl)) ?_
  refine At.loop (n := S.length) (env0 := [(0, .slice a S.length cap), (1, str n), (5, .int .i64 0)]) (fun m env bx hp => ∃ i : Nat, m = S.length - i ∧ i ≤ S.length ∧ (∀ k p, k < i → S[k]? = some p → p.1 ≠ n) ∧
    env = [(0, .slice a S.length cap), (1, str n), (5, .int .i64 i)] ∧ bx = [] ∧ hp = []) rfl
    ⟨0, by simp, by omega, by omega, rfl, rfl, rfl⟩ ⟨rfl, rfl, rfl, trivial⟩ ?_
  rintro m env bx hp ⟨i, rfl, hi, hno, rfl, rfl, rfl⟩ ih
  by_cases hlt : i < S.length
  · obtain ⟨p, hp⟩ : ∃ p, S[i]? = some p := ⟨_, List.getElem?_eq_getElem hlt⟩
    have hne : S ≠ [] := by intro h; rw [h] at hlt; simp at hlt
    obtain ⟨g, o, rfl, hc⟩ := hrow.get (fl_ne hne)
    have hmg : g ∉ (⟨w, kys [] []⟩ : Base).mods := by simp [kys]
    have rN : ∀ {bx : Bx} {hp : List Seg}, RdW ⟨w, kys [] []⟩ bx hp g (o + (i : Int).toNat * 2 + 0) [str p.1] := fun {_ _} => RdW.fileN hc hmg hp (by omega)
    have rB : ∀ {bx : Bx} {hp : List Seg}, RdW ⟨w, kys [] []⟩ bx hp g (o + (i : Int).toNat * 2 + 1) [str p.2] := fun {_ _} => RdW.fileB hc hmg hp (by omega)
    by_cases hn : p.1 = n
    · refine At.run 100 true [true, true] [hR [str p.1], hR [str p.2]] rfl (by (repeat' apply And.intro) <;> first | exact rN | exact rB | (simp only [bl_of]; exact decide_eq_true hn) | exact True.intro | omega | rfl | (simp only [inK]; omega) | exact decide_eq_true (by omega) | exact decide_eq_false (by omega) | (simp; done) | (simp; omega) | (simp [Value.oneCell']; done) | exact i64s_one _ | exact AggOk.mk (by kernel_rfl) (by kernel_rfl)) ?_
      rw [readN_hit hno hp hn]
      exact At.retK [] [] [] rfl rfl Try.func47 rfl trivial ⟨rfl, rfl, rfl⟩
    · refine At.run 100 true [true, false] [hR [str p.1]] rfl (by (repeat' apply And.intro) <;> first | exact rN | (simp only [bl_of]; exact decide_eq_false hn) | exact True.intro | omega | rfl | (simp only [inK]; omega) | exact decide_eq_true (by omega) | exact decide_eq_false (by omega) | (simp; done) | (simp; omega) | (simp [Value.oneCell']; done) | exact i64s_one _ | exact AggOk.mk (by kernel_rfl) (by kernel_rfl)) ?_
      refine At.weak (ih (S.length - (i + 1)) _ _ _ (by omega) ⟨i + 1, rfl, by omega, fun k q hk hq => ?_, rfl, rfl, rfl⟩) ⟨rfl, rfl, some_int_eq (by omega), trivial⟩
      by_cases hki : k = i
      · subst hki; rw [hp] at hq; cases hq; exact hn
      · exact hno k q (by omega) hq
  · have hr : readN S n = [] := by rw [readN_drop hno, List.drop_of_length_le (by omega)]; rfl
    rw [hr]
    refine At.run 100 true [false] [] rfl (by (repeat' apply And.intro) <;> first | exact True.intro | omega | (simp only [inK]; omega) | (simp; done) | (simp; omega) | exact decide_eq_true (by omega) | exact decide_eq_false (by omega) | rfl | (simp [Value.oneCell']; done) | exact i64s_one _ | exact AggOk.mk (by kernel_rfl) (by kernel_rfl)) ?_
    exact At.retK [] [] [] rfl rfl Try.func47 rfl trivial ⟨rfl, rfl, rfl⟩

def nxtN (n : List UInt8) (S : FL) (i : Nat) : FL := match S[i]? with
  | some p => if p.1 = n then [] else [p]
  | none => []
structure HalfN (n s : List UInt8) (S : FL) (i : Nat) (done : Bool) (out : FL) : Prop where
  eq : out ++ (nxtN n S i ++ restN n s S done (i + 1)) = setN n s S
  len : out.length ≤ i + (if done then 1 else 0)
  fin : i = S.length → done = true

theorem Try.rSet_w (S : FL) (n s : List UInt8) (a : Option Addr) (cap : Nat) (w : World) (hlen : S.length ≤ 1000000) (hrow : SlOk w a (fl S)) :
    Tri Try.prog 84 [.slice a S.length cap, str n, str s] w [] (fun v bx hp => ∃ a1 c1, v = sv a1 (setN n s S).length c1 ∧ bx = [] ∧ hp = [Seg.row a1 56 2 (setN n s S).length c1 (fl (setN n s S))]) := by
  refine Tri.enter (bx := []) (hp := []) Try.func84 rfl (by kernel_rfl) rfl (Own.nil w) ?_
  refine At.run 100 true [] [] rfl (by (repeat' apply And.intro) <;> first | exact True.intro | omega | (simp only [inK]; omega) | (simp; done) | (simp; omega) | exact decide_eq_true (by omega) | exact decide_eq_false (by omega) | rfl | (simp [Value.oneCell']; done) | exact i64s_one _ | exact AggOk.mk (by kernel_rfl) (by kernel_rfl)) ?_
  refine At.nilRow 56 2 ?_
  refine At.loop (n := S.length + 1) (env0 := [(0, .slice a S.length cap), (1, str n), (2, str s), (7, sv none 0 0), (8, .bool false), (9, .int .i64 0)]) (fun m env bx hp => ∃ (i : Nat) (done : Bool) (out : FL) (a1 : Option Nat) (c1 : Nat), m = S.length + 1 - i ∧ i ≤ S.length + 1 ∧ out ++ restN n s S done i = setN n s S ∧ out.length ≤ i + (if done then 1 else 0) ∧ (i = S.length + 1 → done = true) ∧
    env = [(0, .slice a S.length cap), (1, str n), (2, str s), (7, sv a1 out.length c1), (8, .bool done), (9, .int .i64 i)] ∧ bx = [] ∧ hp = [Seg.row a1 56 2 out.length c1 (fl out)]) rfl
    ⟨0, false, [], none, 0, by simp, by omega, rfl, by simp, by omega, rfl, rfl, rfl⟩ ⟨rfl, rfl, rfl, rfl, rfl, rfl, trivial⟩ ?_
  rintro m env bx hp ⟨i, done, out, a1, c1, rfl, hi, hout, hol, hfin, rfl, rfl, rfl⟩ ih
  by_cases hlt : i < S.length + 1
  · refine At.run 100 true [true] [] rfl (by (repeat' apply And.intro) <;> first | exact True.intro | omega | (simp only [inK]; omega) | (simp; done) | (simp; omega) | exact decide_eq_true (by omega) | exact decide_eq_false (by omega) | rfl | (simp [Value.oneCell']; done) | exact i64s_one _ | exact AggOk.mk (by kernel_rfl) (by kernel_rfl)) ?_
    refine At.cutS (ι := (q : (Bool × FL) × (Option Nat × Nat)) ×' HalfN n s S i q.1.1 q.1.2) ⟨3, [0, 1, 0, 0, 1, 0, 0, 1, 0, 1, 1, 1], [5, 6, 7, 8, 9, 10, 11, 12]⟩ (fun q => [(0, .slice a S.length cap), (1, str n), (2, str s), (7, sv q.1.2.1 q.1.1.2.length q.1.2.2), (8, .bool q.1.1.1), (9, .int .i64 i), (45, .bool (decide ((i : Int) < S.length)))]) (fun _ => []) (fun q => [Seg.row q.1.2.1 56 2 q.1.1.2.length q.1.2.2 (fl q.1.1.2)]) ?_ (fun hz => ?_)
    · clear hout hol
      rintro ⟨⟨⟨done, out⟩, ⟨a1, c1⟩⟩, hh⟩
      have hT : out ++ (nxtN n S i ++ restN n s S done (i + 1)) = setN n s S := hh.eq
      have hol : out.length ≤ i + (if done then 1 else 0) := hh.len
      have hd1 : (if done = true then 1 else 0) ≤ 1 := by split <;> omega
      have hf2 : i = S.length → done = true := hh.fin
      dsimp only
      by_cases hlt : i < S.length
      · obtain ⟨p, hp⟩ : ∃ p, S[i]? = some p := ⟨_, List.getElem?_eq_getElem hlt⟩
        have hne : S ≠ [] := by intro h; rw [h] at hlt; simp at hlt
        obtain ⟨g, o, rfl, hc⟩ := hrow.get (fl_ne hne)
        have hmg : g ∉ (⟨w, kys [] []⟩ : Base).mods := by simp [kys]
        have rN : ∀ {bx : Bx} {hp : List Seg}, RdW ⟨w, kys [] []⟩ bx hp g (o + (i : Int).toNat * 2 + 0) [str p.1] := fun {_ _} => RdW.fileN hc hmg hp (by omega)
        have rE : ∀ {bx : Bx} {hp : List Seg}, RdW ⟨w, kys [] []⟩ bx hp g (o + (i : Int).toNat * 2) [str p.1, str p.2] := fun {_ _} => RdW.fileE hc hmg hp (by omega)
        unfold nxtN at hT
        simp only [hp] at hT
        by_cases hn : p.1 = n
        · rw [if_pos hn, List.nil_append] at hT
          refine At.run 100 true [true, false] [hR [str p.1]] rfl (by (repeat' apply And.intro) <;> first | exact rN | (simp only [bl_of]; simp [hn]) | exact True.intro | omega | rfl | (simp only [inK]; omega) | exact decide_eq_true (by omega) | exact decide_eq_false (by omega) | (simp; done) | (simp; omega) | (simp [Value.oneCell']; done) | exact i64s_one _ | exact AggOk.mk (by kernel_rfl) (by kernel_rfl)) ?_
          refine At.weak (ih _ _ _ _ (by omega) ⟨i + 1, done, out, a1, c1, rfl, by omega, hT, by omega, fun h => hf2 (by omega), rfl, rfl, rfl⟩) ⟨rfl, rfl, rfl, rfl, rfl, some_int_eq (by omega), trivial⟩
        · rw [if_neg hn] at hT
          refine At.run 100 true [true, true] [hR [str p.1], hR [str p.1, str p.2]] rfl (by (repeat' apply And.intro) <;> first | exact rN | exact rE | (simp only [bl_of]; simp [hn]) | exact True.intro | omega | rfl | (simp only [inK]; omega) | exact decide_eq_true (by omega) | exact decide_eq_false (by omega) | (simp; done) | (simp; omega) | (simp [Value.oneCell']; done) | exact i64s_one _ | exact AggOk.mk (by kernel_rfl) (by kernel_rfl)) ?_
          refine At.append1 0 2 32 rfl rfl rfl rfl rfl rfl rfl rfl rfl trivial (fun _ => rfl) trivial rfl rfl rfl rfl rfl rfl rfl rfl (fun _ => rfl) (by simp [Value.oneCell', str]) (by omega) (by omega) (fun bb a2 c2 => ?_)
          refine At.run 100 true [] [] rfl (by (repeat' apply And.intro) <;> first | exact True.intro | omega | (simp only [inK]; omega) | (simp; done) | (simp; omega) | exact decide_eq_true (by omega) | exact decide_eq_false (by omega) | rfl | (simp [Value.oneCell']; done) | exact i64s_one _ | exact AggOk.mk (by kernel_rfl) (by kernel_rfl)) ?_
          have e1 : (out ++ [p]).length = out.length + 1 := by simp
          have e2 : fl (out ++ [p]) = fl out ++ [str p.1, str p.2] := fl_snoc _ _
          have ih := ih _ _ _ _ (by omega) ⟨i + 1, done, out ++ [p], a2, c2, rfl, by omega, by rw [List.append_assoc]; exact hT, by simp; omega, fun h => hf2 (by omega), rfl, rfl, rfl⟩
          simp only [e1, e2] at ih
          exact At.weak ih ⟨rfl, rfl, rfl, rfl, rfl, some_int_eq (by omega), trivial⟩
      · have hie : i = S.length := by omega
        subst hie
        have hd := hf2 rfl
        subst hd
        refine At.run 100 true [false, false] [] rfl (by (repeat' apply And.intro) <;> first | exact True.intro | omega | (simp only [inK]; omega) | (simp; done) | (simp; omega) | exact decide_eq_true (by omega) | exact decide_eq_false (by omega) | rfl | (simp [Value.oneCell']; done) | exact i64s_one _ | exact AggOk.mk (by kernel_rfl) (by kernel_rfl)) ?_
        refine At.weak (ih _ _ _ _ (by omega) ⟨S.length + 1, true, out, a1, c1, rfl, by omega, ?_, by simp; omega, fun _ => rfl, rfl, rfl, rfl⟩) ⟨rfl, rfl, rfl, rfl, rfl, some_int_eq (by omega), trivial⟩
        rw [nxtN, List.getElem?_eq_none (by omega)] at hT
        exact hT
    · cases done with
      | true =>
        simp only [if_true] at hol
        refine At.run 100 true [false, false] [] rfl (by (repeat' apply And.intro) <;> first | exact True.intro | omega | (simp only [inK]; omega) | (simp; done) | (simp; omega) | exact decide_eq_true (by omega) | exact decide_eq_false (by omega) | rfl | (simp [Value.oneCell']; done) | exact i64s_one _ | exact AggOk.mk (by kernel_rfl) (by kernel_rfl)) ?_
        refine At.weak (hz ⟨((true, out), (a1, c1)), ⟨?_, by simp; omega, fun _ => rfl⟩⟩) ⟨rfl, rfl, rfl, rfl, rfl, rfl, rfl, trivial⟩
        rw [← hout]
        congr 1
        unfold nxtN
        cases hp : S[i]? with
        | some p => exact (restN_step hp).symm
        | none =>
          have := List.getElem?_eq_none_iff.1 hp
          rw [restN_end this, restN_end (by omega)]; rfl
      | false =>
        simp only [Bool.false_eq_true, if_false, Nat.add_zero] at hol
        have nolt : (∀ p, S[i]? = some p → Op.bytesLess p.1 n = false) → out ++ ((if s = [] then [] else [(n, s)]) ++ (nxtN n S i ++ restN n s S true (i + 1))) = setN n s S := by
          intro h
          rw [← hout, restN_at h]
          congr 2
          unfold nxtN
          cases hp : S[i]? with
          | some p => exact (restN_step hp).symm
          | none =>
            have := List.getElem?_eq_none_iff.1 hp
            rw [restN_end this, restN_end (by omega)]; rfl
        refine At.cutS (ι := PLift (∀ p, S[i]? = some p → Op.bytesLess p.1 n = false)) ⟨0, [1, 0, 0, 1, 0, 0, 0, 1, 0, 0, 1, 0, 1, 1, 1], []⟩ (fun _ => [(0, .slice a S.length cap), (1, str n), (2, str s), (7, sv a1 out.length c1), (8, .bool false), (9, .int .i64 i), (34, .bool (!decide (bl ⟨s.toArray⟩ = bl ⟨#[]⟩)))]) (fun _ => []) (fun _ => [Seg.row a1 56 2 out.length c1 (fl out)]) ?_ (fun hy => ?_)
        · rintro ⟨hno⟩
          have hT := nolt hno
          by_cases hs : s = []
          · subst hs
            rw [if_pos rfl, List.nil_append] at hT
            refine At.run 100 true [false] [] rfl (by (repeat' apply And.intro) <;> first | exact True.intro | omega | (simp only [inK]; omega) | (simp; done) | (simp; omega) | exact decide_eq_true (by omega) | exact decide_eq_false (by omega) | rfl | (simp [Value.oneCell']; done) | exact i64s_one _ | exact AggOk.mk (by kernel_rfl) (by kernel_rfl)) ?_
            exact At.weak (hz ⟨((true, out), (a1, c1)), ⟨hT, by simp; omega, fun _ => rfl⟩⟩) ⟨rfl, rfl, rfl, rfl, rfl, rfl, rfl, trivial⟩
          · rw [if_neg hs, ← List.append_assoc] at hT
            refine At.run 100 true [true] [] rfl (by (repeat' apply And.intro) <;> first | (simp only [bl_of]; simp [hs, bl]) | exact True.intro | omega | rfl | (simp only [inK]; omega) | exact decide_eq_true (by omega) | exact decide_eq_false (by omega) | (simp; done) | (simp; omega) | (simp [Value.oneCell']; done) | exact i64s_one _ | exact AggOk.mk (by kernel_rfl) (by kernel_rfl)) ?_
            refine At.append1 0 2 32 rfl rfl rfl rfl rfl rfl rfl rfl rfl trivial (fun _ => rfl) trivial rfl rfl rfl rfl rfl rfl rfl rfl (fun _ => rfl) (by simp [Value.oneCell', str]) (by omega) (by omega) (fun bb a2 c2 => ?_)
            refine At.run 100 true [] [] rfl (by (repeat' apply And.intro) <;> first | exact True.intro | omega | (simp only [inK]; omega) | (simp; done) | (simp; omega) | exact decide_eq_true (by omega) | exact decide_eq_false (by omega) | rfl | (simp [Value.oneCell']; done) | exact i64s_one _ | exact AggOk.mk (by kernel_rfl) (by kernel_rfl)) ?_
            have e1 : (out ++ [(n, s)]).length = out.length + 1 := by simp
            have e2 : fl (out ++ [(n, s)]) = fl out ++ [str n, str s] := fl_snoc _ _
            have hz := hz ⟨((true, out ++ [(n, s)]), (a2, c2)), ⟨hT, by simp; omega, fun _ => rfl⟩⟩
            simp only [e1, e2] at hz
            exact At.weak hz ⟨rfl, rfl, rfl, rfl, rfl, rfl, rfl, trivial⟩
        · by_cases hlt : i < S.length
          · obtain ⟨p, hp⟩ : ∃ p, S[i]? = some p := ⟨_, List.getElem?_eq_getElem hlt⟩
            have hne : S ≠ [] := by intro h; rw [h] at hlt; simp at hlt
            obtain ⟨g, o, rfl, hc⟩ := hrow.get (fl_ne hne)
            have hmg : g ∉ (⟨w, kys [] []⟩ : Base).mods := by simp [kys]
            have rN : ∀ {bx : Bx} {hp : List Seg}, RdW ⟨w, kys [] []⟩ bx hp g (o + (i : Int).toNat * 2 + 0) [str p.1] := fun {_ _} => RdW.fileN hc hmg hp (by omega)
            cases hl : Op.bytesLess p.1 n with
            | true =>
              refine At.run 100 true [true, false, false] [hR [str p.1]] rfl (by (repeat' apply And.intro) <;> first | exact rN | (simp only [bl_of]; simp [hl]) | exact True.intro | omega | rfl | (simp only [inK]; omega) | exact decide_eq_true (by omega) | exact decide_eq_false (by omega) | (simp; done) | (simp; omega) | (simp [Value.oneCell']; done) | exact i64s_one _ | exact AggOk.mk (by kernel_rfl) (by kernel_rfl)) ?_
              refine At.weak (hz ⟨((false, out), (a1, c1)), ⟨?_, by simp; omega, fun h => by omega⟩⟩) ⟨rfl, rfl, rfl, rfl, rfl, rfl, rfl, trivial⟩
              rw [← hout, restN_less hp hl]
              unfold nxtN
              simp only [hp]
              rw [if_neg (less_ne hl)]
            | false =>
              refine At.run 100 true [true, false, true] [hR [str p.1]] rfl (by (repeat' apply And.intro) <;> first | exact rN | (simp only [bl_of]; simp [hl]) | exact True.intro | omega | rfl | (simp only [inK]; omega) | exact decide_eq_true (by omega) | exact decide_eq_false (by omega) | (simp; done) | (simp; omega) | (simp [Value.oneCell']; done) | exact i64s_one _ | exact AggOk.mk (by kernel_rfl) (by kernel_rfl)) ?_
              exact At.weak (hy ⟨fun q hq => by rw [hp] at hq; cases hq; exact hl⟩) ⟨rfl, rfl, rfl, rfl, rfl, rfl, rfl, trivial⟩
          · refine At.run 100 true [true, true, true] [] rfl (by (repeat' apply And.intro) <;> first | exact True.intro | omega | (simp only [inK]; omega) | (simp; done) | (simp; omega) | exact decide_eq_true (by omega) | exact decide_eq_false (by omega) | rfl | (simp [Value.oneCell']; done) | exact i64s_one _ | exact AggOk.mk (by kernel_rfl) (by kernel_rfl)) ?_
            exact At.weak (hy ⟨fun q hq => by rw [List.getElem?_eq_none (by omega)] at hq; cases hq⟩) ⟨rfl, rfl, rfl, rfl, rfl, rfl, rfl, trivial⟩
  · have hie : i = S.length + 1 := by omega
    subst hie
    have hd := hfin rfl
    subst hd
    rw [restN_end (by omega), List.append_nil] at hout
    subst hout
    refine At.run 100 true [false] [] rfl (by (repeat' apply And.intro) <;> first | exact True.intro | omega | (simp only [inK]; omega) | (simp; done) | (simp; omega) | exact decide_eq_true (by omega) | exact decide_eq_false (by omega) | rfl | (simp [Value.oneCell']; done) | exact i64s_one _ | exact AggOk.mk (by kernel_rfl) (by kernel_rfl)) ?_
    refine At.keep [] [true] rfl ?_
    exact At.ret [] rfl Try.func84 rfl trivial ⟨a1, c1, rfl, rfl, rfl⟩

theorem Try.rPut_w (S : FL) (n s : List UInt8) (at0 : Nat) (a : Option Addr) (cap : Nat) (w : World) (hlen : S.length ≤ 1000000) (hrow : SlOk w a (fl S)) (h1 : at0 + s.length ≤ 16777216) (h2 : (readN S n).length ≤ 16777216) :
    Tri Try.prog 85 [.slice a S.length cap, str n, .int .i64 at0, str s] w [] (fun v bx hp => ∃ a1 c1, v = sv a1 (setN n (wrB (readN S n) at0 s) S).length c1 ∧ bx = [] ∧ hp = [Seg.row a1 56 2 (setN n (wrB (readN S n) at0 s) S).length c1 (fl (setN n (wrB (readN S n) at0 s) S))]) := by
  refine Tri.enter (bx := []) (hp := []) Try.func85 rfl (by kernel_rfl) rfl (Own.nil w) ?_
  have hRd : ∀ {bx : Bx} {hp : List Seg}, CallOb Try.prog ⟨w, kys [] []⟩ bx hp 47 [.slice a S.length cap, str n] (str (readN S n)) := fun {_ _} w' hw' => Try.rRead_w S n a cap w' (by omega) (hrow.ext hw'.ext (by simp [kys]))
  have hwl := wrB_len (readN S n) at0 s
  have hwg := wrB_get (readN S n) at0 s
  obtain ⟨out, hO⟩ : ∃ out, out = wrB (readN S n) at0 s := ⟨_, rfl⟩
  obtain ⟨old, hold⟩ : ∃ old, old = readN S n := ⟨_, rfl⟩
  rw [← hO, ← hold] at hwl hwg
  rw [← hO]
  rw [← hold] at h2 hRd hO
  have hbo : (bl ⟨old.toArray⟩).length = old.length := by rw [bl_of]
  have hbs : (bl ⟨s.toArray⟩).length = s.length := by rw [bl_of]
  refine At.run 100 true [] [hC (str old)] rfl (by (repeat' apply And.intro) <;> first | exact hRd | exact True.intro | omega | rfl | (simp only [inK]; omega) | exact decide_eq_true (by omega) | exact decide_eq_false (by omega) | (simp; done) | (simp; omega) | (simp [Value.oneCell']; done) | exact i64s_one _ | exact AggOk.mk (by kernel_rfl) (by kernel_rfl)) ?_
  refine At.nilRow 5 1 ?_
  refine At.loop (n := out.length) (env0 := [(0, .slice a S.length cap), (1, str n), (2, .int .i64 at0), (3, str s), (9, str old), (10, sv none 0 0), (11, .int .i64 0)]) (fun m env bx hp => ∃ (i : Nat) (a1 : Option Nat) (c1 : Nat), m = out.length - i ∧ i ≤ out.length ∧
    env = [(0, .slice a S.length cap), (1, str n), (2, .int .i64 at0), (3, str s), (9, str old), (10, sv a1 i c1), (11, .int .i64 i)] ∧ bx = [] ∧ hp = [Seg.row a1 5 1 i c1 (u8s (out.take i))]) rfl
    ⟨0, none, 0, by simp, by omega, rfl, rfl, rfl⟩ ⟨rfl, rfl, rfl, rfl, rfl, rfl, rfl, trivial⟩ ?_
  rintro m env bx hp ⟨i, a1, c1, rfl, hi, rfl, rfl, rfl⟩ ih
  by_cases hlt : i < out.length
  · obtain ⟨x, hx⟩ : ∃ x, out[i]? = some x := ⟨_, List.getElem?_eq_getElem hlt⟩
    have hxv := hwg i (by omega)
    rw [hx] at hxv
    have htk : u8s (out.take (i + 1)) = u8s (out.take i) ++ [.int .u8 x.toNat] := by rw [List.take_add_one, hx, u8s_append]; rfl
    refine At.cutS (ι := Unit) ⟨3, [1, 1, 0, 0, 1, 0, 0, 1, 0, 1, 1, 1], [2, 3, 4]⟩ (fun _ => [(0, .slice a S.length cap), (1, str n), (2, .int .i64 at0), (3, str s), (9, str old), (11, .int .i64 i), (53, sv a1 i c1), (54, .int .u8 x.toNat)]) (fun _ => []) (fun _ => [Seg.row a1 5 1 i c1 (u8s (out.take i))]) ?_ (fun hz => ?_)
    · rintro ⟨⟩
      refine At.append1 0 1 1 rfl rfl rfl rfl rfl rfl rfl rfl rfl trivial (fun _ => rfl) trivial rfl rfl rfl rfl rfl rfl rfl rfl (fun _ => rfl) (by simp [Value.oneCell']) (by omega) (by omega) (fun bb a2 c2 => ?_)
      refine At.run 100 true [] [] rfl (by (repeat' apply And.intro) <;> first | exact True.intro | omega | (simp only [inK]; omega) | (simp; done) | (simp; omega) | exact decide_eq_true (by omega) | exact decide_eq_false (by omega) | rfl | (simp [Value.oneCell']; done) | exact i64s_one _ | exact AggOk.mk (by kernel_rfl) (by kernel_rfl)) ?_
      have ih := ih _ _ _ _ (by omega) ⟨i + 1, a2, c2, rfl, by omega, rfl, rfl, rfl⟩
      rw [htk] at ih
      exact At.weak ih ⟨rfl, rfl, rfl, rfl, rfl, rfl, some_int_eq (by omega), trivial⟩
    · have hz := hz ()
      refine At.cutS (ι := Unit) ⟨3, [0, 0, 1, 0, 0, 1, 0, 0, 1, 0, 1, 1, 1], [4, 5, 6, 7, 8, 9, 10]⟩ (fun _ => [(0, .slice a S.length cap), (1, str n), (2, .int .i64 at0), (3, str s), (9, str old), (10, sv a1 i c1), (11, .int .i64 i), (12, .int .u8 0), (33, .bool (decide ((at0 : Int) ≤ i)))]) (fun _ => []) (fun _ => [Seg.row a1 5 1 i c1 (u8s (out.take i))]) ?_ (fun hy => ?_)
      · rintro ⟨⟩
        by_cases hin : at0 ≤ i ∧ i < at0 + s.length
        · rw [if_pos hin] at hxv
          have ec : (bl ⟨s.toArray⟩)[((i : Int) - at0).toNat]?.getD 0 = x := by rw [bl_of, show ((i : Int) - at0).toNat = i - at0 by omega, ← hxv]; rfl
          refine At.run 100 true [true, true] [] rfl (by (repeat' apply And.intro) <;> first | exact True.intro | omega | (simp only [inK]; omega) | (simp; done) | (simp; omega) | exact decide_eq_true (by omega) | exact decide_eq_false (by omega) | rfl | (simp [Value.oneCell']; done) | exact i64s_one _ | exact AggOk.mk (by kernel_rfl) (by kernel_rfl)) ?_
          exact At.weak hz ⟨rfl, rfl, rfl, rfl, rfl, rfl, rfl, some_int_eq (by rw [ec]), trivial⟩
        · rw [if_neg hin] at hxv
          refine At.cutS (ι := Unit) ⟨0, [1, 1, 1, 0, 1, 0, 0, 1, 0, 0, 1, 0, 1, 1, 1], []⟩ (fun _ => [(0, .slice a S.length cap), (1, str n), (2, .int .i64 at0), (3, str s), (9, str old), (10, sv a1 i c1), (11, .int .i64 i), (12, .int .u8 0), (49, .bool (decide ((i : Int) < (bl ⟨old.toArray⟩).length)))]) (fun _ => []) (fun _ => [Seg.row a1 5 1 i c1 (u8s (out.take i))]) ?_ (fun hv => ?_)
          · rintro ⟨⟩
            by_cases hlo : i < old.length
            · rw [if_pos hlo] at hxv
              have ec : (bl ⟨old.toArray⟩)[((i : Nat) : Int).toNat]?.getD 0 = x := by rw [bl_of, Int.toNat_natCast, ← hxv]; rfl
              refine At.run 100 true [true] [] rfl (by (repeat' apply And.intro) <;> first | exact True.intro | omega | (simp only [inK]; omega) | (simp; done) | (simp; omega) | exact decide_eq_true (by omega) | exact decide_eq_false (by omega) | rfl | (simp [Value.oneCell']; done) | exact i64s_one _ | exact AggOk.mk (by kernel_rfl) (by kernel_rfl)) ?_
              exact At.weak hz ⟨rfl, rfl, rfl, rfl, rfl, rfl, rfl, some_int_eq (by rw [ec]), trivial⟩
            · rw [if_neg hlo] at hxv
              cases hxv
              refine At.run 100 true [false] [] rfl (by (repeat' apply And.intro) <;> first | exact True.intro | omega | (simp only [inK]; omega) | (simp; done) | (simp; omega) | exact decide_eq_true (by omega) | exact decide_eq_false (by omega) | rfl | (simp [Value.oneCell']; done) | exact i64s_one _ | exact AggOk.mk (by kernel_rfl) (by kernel_rfl)) ?_
              exact At.weak hz ⟨rfl, rfl, rfl, rfl, rfl, rfl, rfl, rfl, trivial⟩
          · have hv := hv ()
            by_cases ha : at0 ≤ i
            · refine At.run 100 true [true, false] [] rfl (by (repeat' apply And.intro) <;> first | exact True.intro | omega | (simp only [inK]; omega) | (simp; done) | (simp; omega) | exact decide_eq_true (by omega) | exact decide_eq_false (by omega) | rfl | (simp [Value.oneCell']; done) | exact i64s_one _ | exact AggOk.mk (by kernel_rfl) (by kernel_rfl)) ?_
              exact At.weak hv ⟨rfl, rfl, rfl, rfl, rfl, rfl, rfl, rfl, rfl, trivial⟩
            · refine At.run 100 true [false, false] [] rfl (by (repeat' apply And.intro) <;> first | exact True.intro | omega | (simp only [inK]; omega) | (simp; done) | (simp; omega) | exact decide_eq_true (by omega) | exact decide_eq_false (by omega) | rfl | (simp [Value.oneCell']; done) | exact i64s_one _ | exact AggOk.mk (by kernel_rfl) (by kernel_rfl)) ?_
              exact At.weak hv ⟨rfl, rfl, rfl, rfl, rfl, rfl, rfl, rfl, rfl, trivial⟩
      · have hy := hy ()
        by_cases hlo : i < old.length
        · refine At.run 100 true [true, true] [] rfl (by (repeat' apply And.intro) <;> first | exact True.intro | omega | (simp only [inK]; omega) | (simp; done) | (simp; omega) | exact decide_eq_true (by omega) | exact decide_eq_false (by omega) | rfl | (simp [Value.oneCell']; done) | exact i64s_one _ | exact AggOk.mk (by kernel_rfl) (by kernel_rfl)) ?_
          exact At.weak hy ⟨rfl, rfl, rfl, rfl, rfl, rfl, rfl, rfl, rfl, trivial⟩
        · refine At.run 100 true [false, true] [] rfl (by (repeat' apply And.intro) <;> first | exact True.intro | omega | (simp only [inK]; omega) | (simp; done) | (simp; omega) | exact decide_eq_true (by omega) | exact decide_eq_false (by omega) | rfl | (simp [Value.oneCell']; done) | exact i64s_one _ | exact AggOk.mk (by kernel_rfl) (by kernel_rfl)) ?_
          exact At.weak hy ⟨rfl, rfl, rfl, rfl, rfl, rfl, rfl, rfl, rfl, trivial⟩
  · have hie : i = out.length := by omega
    subst hie
    rw [List.take_length]
    refine At.run 100 true [false, false] [] rfl (by (repeat' apply And.intro) <;> first | exact True.intro | omega | (simp only [inK]; omega) | (simp; done) | (simp; omega) | exact decide_eq_true (by omega) | exact decide_eq_false (by omega) | rfl | (simp [Value.oneCell']; done) | exact i64s_one _ | exact AggOk.mk (by kernel_rfl) (by kernel_rfl)) ?_
    refine At.step [] rfl rfl rfl rfl rfl trivial (OpOk.toStr (l := out) 0 rfl rfl rfl rfl rfl rfl ?_)
    refine At.step [] rfl rfl rfl rfl rfl trivial (OpOk.call rfl (fun w' hw' => Try.rSet_w S n out a cap w' hlen (hrow.ext hw'.ext (by simp [kys]))) ?_)
    rintro v bx' hp' ⟨a2, c2, rfl, rfl, rfl⟩
    refine At.run 100 true [] [] rfl (by (repeat' apply And.intro) <;> first | exact True.intro | omega | (simp only [inK]; omega) | (simp; done) | (simp; omega) | exact decide_eq_true (by omega) | exact decide_eq_false (by omega) | rfl | (simp [Value.oneCell']; done) | exact i64s_one _ | exact AggOk.mk (by kernel_rfl) (by kernel_rfl)) ?_
    refine At.keep [] [true] rfl ?_
    exact At.ret [] rfl Try.func85 rfl trivial ⟨a2, c2, rfl, rfl, rfl⟩
end Go.Proofs

/-
  Walks of layer 9's document: a disk synced, cut, and crashed.
-/
namespace Go.Proofs
open Go Go.Eng
set_option maxRecDepth 100000
set_option maxHeartbeats 4000000
attribute [local irreducible] Tri

theorem one_of {l : List Value} (h : l.all Value.oneCell' = true) : ∀ u, u ∈ l → u.oneCell' = true := List.all_eq_true.1 h
def rdV (vS vK vP : Value) (r : Nat) : List Value := [vS, vK, vP, .int .i64 r]
def wrL (p : List UInt8 × Nat × List UInt8) : List Value := [str p.1, .int .i64 p.2.1, str p.2.2]
theorem wrL_len (W : List (List UInt8 × Nat × List UInt8)) : (W.flatMap wrL).length = W.length * 3 := flat_len fun _ _ => rfl

theorem Try.rSync_w (sa ka pa : Option Addr) (sn sc kn kc pn pc r : Nat) (w : World) :
    Fun Try.prog 41 [.agg ⟨rdV (.slice sa sn sc) (.slice ka kn kc) (.slice pa pn pc) r⟩] w (.agg ⟨rdV (.slice sa sn sc) (.slice sa sn sc) (.slice none 0 0) r⟩) := by
  refine Tri.enter (bx := []) (hp := []) Try.func41 rfl (by kernel_rfl) rfl (Own.nil w) ?_
  refine At.run 100 true [] [] rfl trivial ?_
  refine At.step [] rfl rfl rfl rfl rfl trivial (OpOk.box rfl rfl rfl fun bq hbq => ?_)
  refine At.step [] rfl rfl rfl rfl rfl trivial (OpOk.alloc (cs := [.slice none 0 0, .slice none 0 0, .slice none 0 0, .int .i64 0]) rfl (by kernel_rfl) fun b2 hb2 => ?_)
  refine At.run 100 true [] [hB 1, hB 1, hB 1, hB 1, hB 0] rfl (by (repeat' apply And.intro) <;> first | exact True.intro | omega | (simp only [inK]; omega) | (simp; done) | (simp; omega) | exact decide_eq_true (by omega) | exact decide_eq_false (by omega) | rfl | (simp [Value.oneCell']; done) | exact i64s_one _ | exact AggOk.mk (by kernel_rfl) (by kernel_rfl)) ?_
  exact At.retK [] [] [hB 0] rfl rfl Try.func41 rfl (by (repeat' apply And.intro) <;> first | exact True.intro | omega | (simp only [inK]; omega) | (simp; done) | (simp; omega) | exact decide_eq_true (by omega) | exact decide_eq_false (by omega) | rfl | (simp [Value.oneCell']; done) | exact i64s_one _ | exact AggOk.mk (by kernel_rfl) (by kernel_rfl)) ⟨rfl, rfl, rfl⟩

theorem Try.rCut_w (S : FL) (n : List UInt8) (m : Int) (a ka pa : Option Addr) (ca kn kc pn pc r : Nat) (w : World) (hlen : S.length ≤ 1000000) (hS : SlOk w a (fl S)) (hm : inK .i64 m) (hp : pn ≤ 9223372036854775807) (hn : (readN S n).length ≤ 9223372036854775807) :
    Tri Try.prog 43 [.agg ⟨rdV (.slice a S.length ca) (.slice ka kn kc) (.slice pa pn pc) r⟩, str n, .int .i64 m] w [] (fun v bx hp => bx = [] ∧
      if 0 < pn then v = .tuple #[.agg ⟨rdV (.slice a S.length ca) (.slice ka kn kc) (.slice pa pn pc) r⟩, .int .i64 8] ∧ hp = []
      else if m < 0 then v = .tuple #[.agg ⟨rdV (.slice a S.length ca) (.slice ka kn kc) (.slice pa pn pc) r⟩, .int .i64 1] ∧ hp = []
      else if ((readN S n).length : Int) ≤ m then v = .tuple #[.agg ⟨rdV (.slice a S.length ca) (.slice ka kn kc) (.slice pa pn pc) r⟩, .int .i64 0] ∧ hp = []
      else ∃ a1 c1, v = .tuple #[.agg ⟨rdV (sv a1 (setN n ((readN S n).take m.toNat) S).length c1) (sv a1 (setN n ((readN S n).take m.toNat) S).length c1) (.slice pa pn pc) r⟩, .int .i64 0] ∧
        hp = [Seg.row a1 56 2 (setN n ((readN S n).take m.toNat) S).length c1 (fl (setN n ((readN S n).take m.toNat) S))]) := by
  refine Tri.enter (bx := []) (hp := []) Try.func43 rfl (by kernel_rfl) rfl (Own.nil w) ?_
  have hbr : (bl ⟨(readN S n).toArray⟩).length = (readN S n).length := by rw [bl_of]
  have hRd : ∀ {bx : Bx} {hp : List Seg}, CallOb Try.prog ⟨w, kys [] []⟩ bx hp 47 [.slice a S.length ca, str n] (str (readN S n)) := fun {_ _} w' hw' => Try.rRead_w S n a ca w' (by omega) (hS.ext hw'.ext (by simp [kys]))
  refine At.run 100 true [] [] rfl trivial ?_
  refine At.step [] rfl rfl rfl rfl rfl trivial (OpOk.box rfl rfl rfl fun bq hbq => ?_)
  refine At.step [] rfl rfl rfl rfl rfl trivial (OpOk.alloc (cs := [.slice none 0 0, .slice none 0 0, .slice none 0 0, .int .i64 0]) rfl (by kernel_rfl) fun b6 hb6 => ?_)
  by_cases h1 : 0 < pn
  · refine At.run 100 true [true] [hB 1, hB 1, hB 0] rfl (by (repeat' apply And.intro) <;> first | exact True.intro | omega | (simp only [inK]; omega) | (simp; done) | (simp; omega) | exact decide_eq_true (by omega) | exact decide_eq_false (by omega) | rfl | (simp [Value.oneCell']; done) | exact i64s_one _ | exact AggOk.mk (by kernel_rfl) (by kernel_rfl)) ?_
    exact At.retK [] [] [hB 0] rfl rfl Try.func43 rfl (by (repeat' apply And.intro) <;> first | exact True.intro | omega | (simp only [inK]; omega) | (simp; done) | (simp; omega) | exact decide_eq_true (by omega) | exact decide_eq_false (by omega) | rfl | (simp [Value.oneCell']; done) | exact i64s_one _ | exact AggOk.mk (by kernel_rfl) (by kernel_rfl)) ⟨rfl, by rw [if_pos h1]; exact ⟨rfl, rfl⟩⟩
  by_cases h2 : m < 0
  · refine At.run 100 true [false, true] [hB 1, hB 1, hB 0] rfl (by (repeat' apply And.intro) <;> first | exact True.intro | omega | (simp only [inK]; omega) | (simp; done) | (simp; omega) | exact decide_eq_true (by omega) | exact decide_eq_false (by omega) | rfl | (simp [Value.oneCell']; done) | exact i64s_one _ | exact AggOk.mk (by kernel_rfl) (by kernel_rfl)) ?_
    exact At.retK [] [] [hB 0] rfl rfl Try.func43 rfl (by (repeat' apply And.intro) <;> first | exact True.intro | omega | (simp only [inK]; omega) | (simp; done) | (simp; omega) | exact decide_eq_true (by omega) | exact decide_eq_false (by omega) | rfl | (simp [Value.oneCell']; done) | exact i64s_one _ | exact AggOk.mk (by kernel_rfl) (by kernel_rfl)) ⟨rfl, by rw [if_neg h1, if_pos h2]; exact ⟨rfl, rfl⟩⟩
  by_cases h3 : ((readN S n).length : Int) ≤ m
  · refine At.run 100 true [false, false, false] [hB 1, hB 1, hC (str (readN S n)), hB 1, hB 0] rfl (by (repeat' apply And.intro) <;> first | exact hRd | exact True.intro | omega | rfl | (simp only [inK]; omega) | exact decide_eq_true (by omega) | exact decide_eq_false (by omega) | (simp; done) | (simp; omega) | (simp [Value.oneCell']; done) | exact i64s_one _ | exact AggOk.mk (by kernel_rfl) (by kernel_rfl)) ?_
    exact At.retK [] [] [hB 0] rfl rfl Try.func43 rfl (by (repeat' apply And.intro) <;> first | exact True.intro | omega | (simp only [inK]; omega) | (simp; done) | (simp; omega) | exact decide_eq_true (by omega) | exact decide_eq_false (by omega) | rfl | (simp [Value.oneCell']; done) | exact i64s_one _ | exact AggOk.mk (by kernel_rfl) (by kernel_rfl)) ⟨rfl, by rw [if_neg h1, if_neg h2, if_pos h3]; exact ⟨rfl, rfl⟩⟩
  refine At.run 100 true [false, false, true] [hB 1, hB 1, hC (str (readN S n))] rfl (by (repeat' apply And.intro) <;> first | exact hRd | exact True.intro | omega | rfl | (simp only [inK]; omega) | exact decide_eq_true (by omega) | exact decide_eq_false (by omega) | (simp; done) | (simp; omega) | (simp [Value.oneCell']; done) | exact i64s_one _ | exact AggOk.mk (by kernel_rfl) (by kernel_rfl)) ?_
  refine At.quietT 6 3 true [] [hB 1] ⟨by kernel_rfl, by kernel_rfl, rfl, by kernel_rfl, by kernel_rfl, by kernel_rfl, rfl, rfl, rfl⟩ rfl rfl rfl (by (repeat' apply And.intro) <;> first | exact True.intro | omega | (simp only [inK]; omega) | (simp; done) | (simp; omega) | exact decide_eq_true (by omega) | exact decide_eq_false (by omega) | rfl | (simp [Value.oneCell']; done) | exact i64s_one _ | exact AggOk.mk (by kernel_rfl) (by kernel_rfl)) rfl ?_
  simp only [bl_of]
  refine AtD.fork1 6 (by kernel_rfl) (StepD.by [] rfl rfl rfl rfl trivial (OpOk.call rfl (fun w' hw' => Try.rSet_w S n ((readN S n).take m.toNat) a ca w' hlen (hS.ext hw'.ext (by simp [kys]))) ?_))
  rintro v bx' hp' ⟨a1, c1, rfl, rfl, rfl⟩
  refine AtD.pures (ob := True) true (by kernel_rfl) [7] (fuel := 1) (by kernel_rfl) rfl (by (repeat' apply And.intro) <;> first | exact True.intro | omega | (simp only [inK]; omega) | (simp; done) | (simp; omega) | exact decide_eq_true (by omega) | exact decide_eq_false (by omega) | rfl | (simp [Value.oneCell']; done) | exact i64s_one _ | exact AggOk.mk (by kernel_rfl) (by kernel_rfl)) ?_
  refine AtD.fork1 8 (by kernel_rfl) (StepD.by0 [] rfl rfl rfl trivial (OpOk.one true [] [hB 1] rfl (by (repeat' apply And.intro) <;> first | exact True.intro | omega | (simp only [inK]; omega) | (simp; done) | (simp; omega) | exact decide_eq_true (by omega) | exact decide_eq_false (by omega) | rfl | (simp [Value.oneCell']; done) | exact i64s_one _ | exact AggOk.mk (by kernel_rfl) (by kernel_rfl)) ?_))
  refine AtD.done (by kernel_rfl) ?_
  refine At.run 100 true [] [hB 1, hB 1, hB 1, hB 0] rfl (by (repeat' apply And.intro) <;> first | exact one_of rfl | exact True.intro | omega | rfl | (simp only [inK]; omega) | exact decide_eq_true (by omega) | exact decide_eq_false (by omega) | (simp; done) | (simp; omega) | (simp [Value.oneCell']; done) | exact i64s_one _ | exact AggOk.mk (by kernel_rfl) (by kernel_rfl)) ?_
  exact At.retK [] [true] [hB 0] rfl rfl Try.func43 rfl (by (repeat' apply And.intro) <;> first | exact True.intro | omega | (simp only [inK]; omega) | (simp; done) | (simp; omega) | exact decide_eq_true (by omega) | exact decide_eq_false (by omega) | rfl | (simp [Value.oneCell']; done) | exact i64s_one _ | exact AggOk.mk (by kernel_rfl) (by kernel_rfl)) ⟨rfl, by rw [if_neg h1, if_neg h2, if_neg h3]; exact ⟨a1, c1, rfl, rfl⟩⟩

theorem setN_len (n s : List UInt8) : ∀ S : FL, (setN n s S).length ≤ S.length + 1
  | [] => by
    unfold setN
    split <;> simp
  | p :: l => by
    unfold setN
    split
    · have := setN_len n s l
      simp only [List.length_cons]; omega
    · have h1 := List.length_filter_le (fun q : List UInt8 × List UInt8 => !decide (q.1 = n)) (p :: l)
      rw [List.length_append]
      split <;> simp only [List.length_cons, List.length_nil] at h1 ⊢ <;> omega
def BOK (S : FL) : Prop := ∀ p, p ∈ S → p.2.length ≤ 1048576
theorem BOK.read {S : FL} (h : BOK S) (n : List UInt8) : (readN S n).length ≤ 1048576 := by
  rcases @readN_mem S n with h1 | h1
  · rw [h1]; simp
  · exact h _ h1
theorem BOK.set {S : FL} (h : BOK S) {n s : List UInt8} (hs : s.length ≤ 1048576) : BOK (setN n s S) := by
  intro p hp
  rcases (setN_mem n s S p).1 hp with ⟨-, rfl⟩ | ⟨h1, -⟩
  · exact hs
  · exact h p h1
theorem BOK.put {S : FL} (h : BOK S) {n s : List UInt8} {at0 : Nat} (hs : at0 + s.length ≤ 1048576) : BOK (setN n (wrB (readN S n) at0 s) S) := by
  refine h.set ?_
  have := h.read n
  rw [wrB_len]; omega
/-- How many bytes the document keeps. -/
def kpN (ks : List Int) (i : Nat) (l : Nat) : Int := match ks[i]? with
  | some k => if k < l then k else l
  | none => l
theorem kpN_min (ks : List Int) (i l : Nat) (hl : l ≤ 1048576) : (0 < kpN ks i l ↔ 0 < min (max (keepN ks i) 0) (l : Int)) ∧ (0 < kpN ks i l → min (max (keepN ks i) 0) (l : Int) = kpN ks i l) ∧ kpN ks i l ≤ l := by
  unfold kpN keepN
  cases ks[i]? with
  | none => simp only; omega
  | some k => simp only; split <;> omega

/-- Files that are the ones that were there, or new ones. -/
def OneOf (t : TypeId) (sz : Nat) (ka : Option Addr) (kc : Nat) (xs0 xs : List Value) (a : Option Addr) (n c : Nat) (hp : List Seg) : Prop :=
  (hp = [] ∧ a = ka ∧ c = kc ∧ xs = xs0) ∨ ∃ g, a = svA g ∧ hp = [Seg.row g t sz n c xs]
theorem OneOf.sl {S : Base} {t : TypeId} {sz : Nat} {ka : Option Addr} {kc : Nat} {xs0 xs : List Value} {a : Option Addr} {n c : Nat} {hp : List Seg} (h : OneOf t sz ka kc xs0 xs a n c hp) (hm : S.mods = []) (h0 : SlOk S.w0 ka xs0) {bx : Bx} {hp' : List Seg} {w : World} (hw : WOk S bx hp' w) (hs : ∀ s, s ∈ hp → s ∈ hp') : SlOk w a xs := by
  rcases h with ⟨-, rfl, -, rfl⟩ | ⟨g, rfl, rfl⟩
  · exact h0.ext hw.ext (by simp [hm])
  · exact SlOk.row (hw.hp _ (hs (Seg.row g t sz n c xs) (by simp)))

theorem Try.rCrash_w (K : FL) (W : List (List UInt8 × Nat × List UInt8)) (ks : List Int) (sa ka pa xa : Option Addr) (sn sc kc pc xc r : Nat) (w : World) (hlen : K.length + W.length ≤ 1000000) (hK : SlOk w ka (fl K)) (hW : SlOk w pa (W.flatMap wrL)) (hks : SlOk w xa (i64s ks)) (hkl : ks.length ≤ 1000000)
    (hki : ∀ x, x ∈ ks → inK .i64 x) (hBK : BOK K) (hWb : ∀ e, e ∈ W → e.2.1 + e.2.2.length ≤ 1048576) :
    Tri Try.prog 44 [.agg ⟨rdV (.slice sa sn sc) (.slice ka K.length kc) (.slice pa W.length pc) r⟩, .slice xa ks.length xc] w [] (fun v bx hp => ∃ a1 c1, v = .agg ⟨rdV (.slice a1 (crashR K W (keepN ks) 0).length c1) (.slice a1 (crashR K W (keepN ks) 0).length c1) (.slice none 0 0) r⟩ ∧ bx = [] ∧
      OneOf 56 2 ka kc (fl K) (fl (crashR K W (keepN ks) 0)) a1 (crashR K W (keepN ks) 0).length c1 hp) := by
  refine Tri.enter (bx := []) (hp := []) Try.func44 rfl (by kernel_rfl) rfl (Own.nil w) ?_
  refine At.run 100 true [] [] rfl trivial ?_
  refine At.step [] rfl rfl rfl rfl rfl trivial (OpOk.box rfl rfl rfl fun bq hbq => ?_)
  refine At.step [] rfl rfl rfl rfl rfl trivial (OpOk.alloc (cs := [.slice none 0 0, .slice none 0 0, .slice none 0 0, .int .i64 0]) rfl (by kernel_rfl) fun b4 hb4 => ?_)
  refine At.run 100 true [] [] rfl (by (repeat' apply And.intro) <;> first | exact True.intro | omega | (simp only [inK]; omega) | (simp; done) | (simp; omega) | exact decide_eq_true (by omega) | exact decide_eq_false (by omega) | rfl | (simp [Value.oneCell']; done) | exact i64s_one _ | exact AggOk.mk (by kernel_rfl) (by kernel_rfl)) ?_
  refine At.loop (n := W.length) (env0 := [(1, .slice xa ks.length xc), (2, .pointer (some ⟨bq, 0, none⟩)), (4, .pointer (some ⟨b4, 0, none⟩)), (5, .int .i64 0)]) (fun m env bx hp => ∃ (i : Nat) (K1 : FL) (a1 : Option Addr) (c1 : Nat), m = W.length - i ∧ i ≤ W.length ∧ crashR K1 (W.drop i) (keepN ks) i = crashR K W (keepN ks) 0 ∧ K1.length ≤ K.length + i ∧ BOK K1 ∧ OneOf 56 2 ka kc (fl K) (fl K1) a1 K1.length c1 hp ∧
    env = [(1, .slice xa ks.length xc), (2, .pointer (some ⟨bq, 0, none⟩)), (4, .pointer (some ⟨b4, 0, none⟩)), (5, .int .i64 i)] ∧ bx = [(b4, 76, [.slice none 0 0, .slice none 0 0, .slice none 0 0, .int .i64 0]), (bq, 76, rdV (.slice sa sn sc) (.slice a1 K1.length c1) (.slice pa W.length pc) r)]) rfl
    ⟨0, K, ka, kc, by simp, by omega, rfl, by omega, hBK, .inl ⟨rfl, rfl, rfl, rfl⟩, rfl, rfl⟩ ⟨rfl, rfl, rfl, rfl, trivial⟩ ?_
  rintro m env bx hp ⟨i, K1, a1, c1, rfl, hi, hcr, hKl, hBk, hone, rfl, rfl⟩ ih
  by_cases hlt : i < W.length
  · obtain ⟨e, he⟩ : ∃ e, W[i]? = some e := ⟨_, List.getElem?_eq_getElem hlt⟩
    have hem := List.mem_of_getElem? he
    have hWe := hWb e hem
    have hdrop : W.drop i = e :: W.drop (i + 1) := by rw [List.drop_eq_getElem_cons hlt, (List.getElem?_eq_some_iff.1 he).2]
    have hne : W.flatMap wrL ≠ [] := by
      intro h
      have := wrL_len W
      rw [h] at this; simp only [List.length_nil] at this; omega
    obtain ⟨g, o, rfl, hc⟩ := hW.get hne
    have hmg : g ∉ (⟨w, kys [] []⟩ : Base).mods := by simp [kys]
    have rE : ∀ {bx : Bx} {hp : List Seg}, RdW ⟨w, kys [] []⟩ bx hp g (o + (i : Int).toNat * 3) (wrL e) := fun {_ _} => RdW.sl hc hmg (i * 3) (by omega) (fun j u hu => flat_get (f := wrL) (sz := 3) (fun _ _ => rfl) he j u hu)
    refine At.run 100 true [true] [hB 1, hB 1, hR (wrL e)] rfl (by (repeat' apply And.intro) <;> first | exact rE | exact True.intro | omega | rfl | (simp only [inK]; omega) | exact decide_eq_true (by omega) | exact decide_eq_false (by omega) | (simp; done) | (simp; omega) | (simp [Value.oneCell']; done) | exact i64s_one _ | exact AggOk.mk (by kernel_rfl) (by kernel_rfl)) ?_
    refine At.step [] rfl rfl rfl rfl rfl trivial (OpOk.alloc (cs := [str [], .int .i64 0, str []]) rfl (by kernel_rfl) fun b6 hb6 => ?_)
    have hbs : (bl ⟨e.2.2.toArray⟩).length = e.2.2.length := by rw [bl_of]
    refine At.cutS (ι := Unit) ⟨0, [1, 1, 1, 1, 0, 0, 1, 0, 0, 1, 0, 1], []⟩ (fun _ => [(1, .slice xa ks.length xc), (2, .pointer (some ⟨bq, 0, none⟩)), (4, .pointer (some ⟨b4, 0, none⟩)), (5, .int .i64 i), (6, .pointer (some ⟨b6, 0, none⟩)), (7, .int .i64 (kpN ks i e.2.2.length)), (40, .bool (decide (0 < kpN ks i e.2.2.length)))])
      (fun _ => [(b6, 85, wrL e), (b4, 76, [.slice none 0 0, .slice none 0 0, .slice none 0 0, .int .i64 0]), (bq, 76, rdV (.slice sa sn sc) (.slice a1 K1.length c1) (.slice (some ⟨g, o, none⟩) W.length pc) r)]) (fun _ => hp) ?_ (fun hz => ?_)
    · rintro ⟨⟩
      obtain ⟨k1, k2, k3⟩ := kpN_min ks i e.2.2.length (by omega)
      by_cases hk : 0 < kpN ks i e.2.2.length
      · have hcr2 : crashR (setN e.1 (wrB (readN K1 e.1) e.2.1 (e.2.2.take (kpN ks i e.2.2.length).toNat)) K1) (W.drop (i + 1)) (keepN ks) (i + 1) = crashR K W (keepN ks) 0 := by
          rw [← hcr, hdrop]
          show _ = crashR (if 0 < min (max (keepN ks i) 0) (e.2.2.length : Int) then setN e.1 (wrB (readN K1 e.1) e.2.1 (e.2.2.take (min (max (keepN ks i) 0) (e.2.2.length : Int)).toNat)) K1 else K1) _ _ _
          rw [if_pos (k1.1 hk), k2 hk]
        have htl : (e.2.2.take (kpN ks i e.2.2.length).toNat).length ≤ e.2.2.length := by rw [List.length_take]; omega
        have hrd := hBk.read e.1
        refine At.run 100 true [true] [] rfl (by (repeat' apply And.intro) <;> first | exact True.intro | omega | (simp only [inK]; omega) | (simp; done) | (simp; omega) | exact decide_eq_true (by omega) | exact decide_eq_false (by omega) | rfl | (simp [Value.oneCell']; done) | exact i64s_one _ | exact AggOk.mk (by kernel_rfl) (by kernel_rfl)) ?_
        refine At.quietT 10 3 true [] [hB 2, hB 0, hB 0, hB 0] ⟨by kernel_rfl, by kernel_rfl, rfl, by kernel_rfl, by kernel_rfl, by kernel_rfl, rfl, rfl, rfl⟩ rfl rfl rfl (by (repeat' apply And.intro) <;> first | exact True.intro | omega | (simp only [inK]; omega) | (simp; done) | (simp; omega) | exact decide_eq_true (by omega) | exact decide_eq_false (by omega) | rfl | (simp [Value.oneCell']; done) | exact i64s_one _ | exact AggOk.mk (by kernel_rfl) (by kernel_rfl)) rfl ?_
        simp only [bl_of]
        refine AtD.fork1 10 (by kernel_rfl) (StepD.by [] rfl rfl rfl rfl trivial (OpOk.call rfl (fun w' hw' => Try.rPut_w K1 e.1 (e.2.2.take (kpN ks i e.2.2.length).toNat) e.2.1 a1 c1 w' (by omega) (hone.sl (by rfl) hK hw' (fun s hs => hs)) (by omega) (by omega)) ?_))
        rintro v bx' hp' ⟨a2, c2, rfl, rfl, rfl⟩
        refine AtD.pures (ob := True) true (by kernel_rfl) [11] (fuel := 1) (by kernel_rfl) rfl (by (repeat' apply And.intro) <;> first | exact True.intro | omega | (simp only [inK]; omega) | (simp; done) | (simp; omega) | exact decide_eq_true (by omega) | exact decide_eq_false (by omega) | rfl | (simp [Value.oneCell']; done) | exact i64s_one _ | exact AggOk.mk (by kernel_rfl) (by kernel_rfl)) ?_
        refine AtD.fork1 12 (by kernel_rfl) (StepD.by0 [] rfl rfl rfl trivial (OpOk.one true [] [hB 2] rfl (by (repeat' apply And.intro) <;> first | exact True.intro | omega | (simp only [inK]; omega) | (simp; done) | (simp; omega) | exact decide_eq_true (by omega) | exact decide_eq_false (by omega) | rfl | (simp [Value.oneCell']; done) | exact i64s_one _ | exact AggOk.mk (by kernel_rfl) (by kernel_rfl)) ?_))
        refine AtD.done (by kernel_rfl) ?_
        refine At.run 100 true [] [] rfl (by (repeat' apply And.intro) <;> first | exact True.intro | omega | (simp only [inK]; omega) | (simp; done) | (simp; omega) | exact decide_eq_true (by omega) | exact decide_eq_false (by omega) | rfl | (simp [Value.oneCell']; done) | exact i64s_one _ | exact AggOk.mk (by kernel_rfl) (by kernel_rfl)) ?_
        have hsl := setN_len e.1 (wrB (readN K1 e.1) e.2.1 (e.2.2.take (kpN ks i e.2.2.length).toNat)) K1
        have hBn : BOK (setN e.1 (wrB (readN K1 e.1) e.2.1 (e.2.2.take (kpN ks i e.2.2.length).toNat)) K1) := hBk.put (by omega)
        rcases hone with ⟨rfl, -, -, -⟩ | ⟨g1, -, rfl⟩
        · refine At.keep [false, true, true] [true] rfl ?_
          exact At.weak (ih _ _ _ _ (by omega) ⟨i + 1, _, _, _, rfl, by omega, hcr2, by omega, hBn, .inr ⟨a2, rfl, rfl⟩, rfl, rfl⟩) ⟨rfl, rfl, rfl, some_int_eq (by omega), trivial⟩
        · refine At.keep [false, true, true] [true, false] rfl ?_
          exact At.weak (ih _ _ _ _ (by omega) ⟨i + 1, _, _, _, rfl, by omega, hcr2, by omega, hBn, .inr ⟨a2, rfl, rfl⟩, rfl, rfl⟩) ⟨rfl, rfl, rfl, some_int_eq (by omega), trivial⟩
      · have hcr2 : crashR K1 (W.drop (i + 1)) (keepN ks) (i + 1) = crashR K W (keepN ks) 0 := by
          rw [← hcr, hdrop]
          show _ = crashR (if 0 < min (max (keepN ks i) 0) (e.2.2.length : Int) then setN e.1 (wrB (readN K1 e.1) e.2.1 (e.2.2.take (min (max (keepN ks i) 0) (e.2.2.length : Int)).toNat)) K1 else K1) _ _ _
          rw [if_neg (fun h => hk (k1.2 h))]
        refine At.run 100 true [false] [] rfl (by (repeat' apply And.intro) <;> first | exact True.intro | omega | (simp only [inK]; omega) | (simp; done) | (simp; omega) | exact decide_eq_true (by omega) | exact decide_eq_false (by omega) | rfl | (simp [Value.oneCell']; done) | exact i64s_one _ | exact AggOk.mk (by kernel_rfl) (by kernel_rfl)) ?_
        rcases hone with ⟨rfl, h1, h2, h3⟩ | ⟨g1, h1, rfl⟩
        · refine At.keep [false, true, true] [] rfl ?_
          exact At.weak (ih _ _ _ _ (by omega) ⟨i + 1, _, _, _, rfl, by omega, hcr2, by omega, hBk, .inl ⟨rfl, h1, h2, h3⟩, rfl, rfl⟩) ⟨rfl, rfl, rfl, some_int_eq (by omega), trivial⟩
        · refine At.keep [false, true, true] [true] rfl ?_
          exact At.weak (ih _ _ _ _ (by omega) ⟨i + 1, _, _, _, rfl, by omega, hcr2, by omega, hBk, .inr ⟨g1, h1, rfl⟩, rfl, rfl⟩) ⟨rfl, rfl, rfl, some_int_eq (by omega), trivial⟩
    · have hz := hz ()
      by_cases hik : i < ks.length
      · obtain ⟨k, hk⟩ : ∃ k, ks[i]? = some k := ⟨_, List.getElem?_eq_getElem hik⟩
        have hik64 : i64s ks ≠ [] := by
          intro h
          have := congrArg List.length h
          simp [i64s] at this
          rw [this] at hik; simp at hik
        obtain ⟨xg, xo, rfl, hxc⟩ := hks.get hik64
        have hmx : xg ∉ (⟨w, kys [] []⟩ : Base).mods := by simp [kys]
        have rK : ∀ {bx : Bx} {hp : List Seg}, RdW ⟨w, kys [] []⟩ bx hp xg (xo + (i : Int).toNat * 1) [.int .i64 k] := fun {_ _} => RdW.sl hxc hmx i (by omega) (fun j u hu => by
          match j, hu with
          | 0, hu => simp only [List.getElem?_cons_zero, Option.some.injEq] at hu; subst hu; show (ks.map (Value.int .i64))[i + 0]? = _; rw [List.getElem?_map, Nat.add_zero, hk]; rfl)
        have hkk : inK .i64 k := hki k (List.mem_of_getElem? hk)
        have hkp : kpN ks i e.2.2.length = if k < e.2.2.length then k else e.2.2.length := by unfold kpN; rw [hk]
        by_cases hkl2 : k < e.2.2.length
        · rw [if_pos hkl2] at hkp
          rw [hkp] at hz
          refine At.run 100 true [true, true] [hB 0, hB 0, hR [.int .i64 k], hR [.int .i64 k]] rfl (by (repeat' apply And.intro) <;> first | exact rK | exact one_of rfl | exact True.intro | omega | rfl | (simp only [inK]; omega) | exact decide_eq_true (by omega) | exact decide_eq_false (by omega) | (simp; done) | (simp; omega) | (simp [Value.oneCell']; done) | exact i64s_one _ | exact AggOk.mk (by kernel_rfl) (by kernel_rfl)) ?_
          exact At.weak hz ⟨rfl, rfl, rfl, rfl, rfl, rfl, rfl, trivial⟩
        · rw [if_neg hkl2] at hkp
          rw [hkp] at hz
          refine At.run 100 true [true, false] [hB 0, hB 0, hR [.int .i64 k]] rfl (by (repeat' apply And.intro) <;> first | exact rK | exact one_of rfl | exact True.intro | omega | rfl | (simp only [inK]; omega) | exact decide_eq_true (by omega) | exact decide_eq_false (by omega) | (simp; done) | (simp; omega) | (simp [Value.oneCell']; done) | exact i64s_one _ | exact AggOk.mk (by kernel_rfl) (by kernel_rfl)) ?_
          exact At.weak hz ⟨rfl, rfl, rfl, rfl, rfl, some_int_eq (by omega), by rw [hbs]; rfl, trivial⟩
      · have hkp : kpN ks i e.2.2.length = e.2.2.length := by unfold kpN; rw [List.getElem?_eq_none (by omega)]
        rw [hkp] at hz
        refine At.run 100 true [false, false] [hB 0, hB 0] rfl (by (repeat' apply And.intro) <;> first | exact one_of rfl | exact True.intro | omega | rfl | (simp only [inK]; omega) | exact decide_eq_true (by omega) | exact decide_eq_false (by omega) | (simp; done) | (simp; omega) | (simp [Value.oneCell']; done) | exact i64s_one _ | exact AggOk.mk (by kernel_rfl) (by kernel_rfl)) ?_
        exact At.weak hz ⟨rfl, rfl, rfl, rfl, rfl, some_int_eq (by omega), by rw [hbs]; rfl, trivial⟩
  · have hie : i = W.length := by omega
    subst hie
    rw [List.drop_length] at hcr
    have hcr : K1 = crashR K W (keepN ks) 0 := hcr
    rw [← hcr]
    refine At.run 100 true [false] [hB 1, hB 1, hB 1, hB 1, hB 1, hB 0] rfl (by (repeat' apply And.intro) <;> first | exact one_of rfl | exact True.intro | omega | rfl | (simp only [inK]; omega) | exact decide_eq_true (by omega) | exact decide_eq_false (by omega) | (simp; done) | (simp; omega) | (simp [Value.oneCell']; done) | exact i64s_one _ | exact AggOk.mk (by kernel_rfl) (by kernel_rfl)) ?_
    rcases hone with ⟨rfl, h1, h2, h3⟩ | ⟨g1, h1, rfl⟩
    · exact At.retK [] [] [hB 0] rfl rfl Try.func44 rfl (by (repeat' apply And.intro) <;> first | exact True.intro | omega | (simp only [inK]; omega) | (simp; done) | (simp; omega) | exact decide_eq_true (by omega) | exact decide_eq_false (by omega) | rfl | (simp [Value.oneCell']; done) | exact i64s_one _ | exact AggOk.mk (by kernel_rfl) (by kernel_rfl)) ⟨_, _, rfl, rfl, .inl ⟨rfl, h1, h2, h3⟩⟩
    · exact At.retK [] [true] [hB 0] rfl rfl Try.func44 rfl (by (repeat' apply And.intro) <;> first | exact True.intro | omega | (simp only [inK]; omega) | (simp; done) | (simp; omega) | exact decide_eq_true (by omega) | exact decide_eq_false (by omega) | rfl | (simp [Value.oneCell']; done) | exact i64s_one _ | exact AggOk.mk (by kernel_rfl) (by kernel_rfl)) ⟨_, _, rfl, rfl, .inr ⟨g1, h1, rfl⟩⟩

end Go.Proofs

/-
  Walks of layer 9's document: a disk written.
-/
namespace Go.Proofs
open Go Go.Eng
set_option maxRecDepth 100000
set_option maxHeartbeats 4000000
attribute [local irreducible] Tri

theorem wrL_one {W : List (List UInt8 × Nat × List UInt8)} : ∀ v, v ∈ W.flatMap wrL → v.oneCell' = true := by
  intro v hv
  obtain ⟨e, -, h⟩ := List.mem_flatMap.1 hv
  exact one_of (l := wrL e) rfl v h
theorem setN_sum (n s : List UInt8) : ∀ S : FL, sumB (setN n s S) ≤ sumB S + s.length
  | [] => by
    unfold setN
    split <;> simp [sumB]
  | p :: l => by
    unfold setN
    split
    · have := setN_sum n s l
      simp only [sumB_cons]; omega
    · have hf : sumB ((p :: l).filter fun q => !decide (q.1 = n)) ≤ sumB (p :: l) := by
        generalize p :: l = L
        induction L with
        | nil => simp [sumB]
        | cons q L ih =>
          rw [List.filter_cons]
          split <;> simp only [sumB_cons] <;> omega
      have e : sumB ((if s = [] then [] else [(n, s)]) ++ (p :: l).filter fun q => !decide (q.1 = n)) = sumB (if s = [] then [] else [(n, s)]) + sumB ((p :: l).filter fun q => !decide (q.1 = n)) := by simp [sumB]
      rw [e]
      have e2 : sumB (if s = [] then [] else [(n, s)]) ≤ s.length := by split <;> simp [sumB]
      omega

theorem Try.rWrites_w (S : FL) (W : List (List UInt8 × Nat × List UInt8)) (n s : List UInt8) (az : Int) (a ka pa : Option Addr) (ca kn kc pc r : Nat) (w : World) (hlen : S.length ≤ 1000000) (hS : SlOk w a (fl S)) (hP : SlOk w pa (W.flatMap wrL)) (hW : W.length ≤ 1000000) (hn : n.length ≤ 9223372036854775807) (hs : s.length ≤ 1048576)
    (hz : inK .i64 az) (hu : sumB S ≤ 1048576) (hr : r ≤ 9223372036854775807) :
    Tri Try.prog 45 [.agg ⟨rdV (.slice a S.length ca) (.slice ka kn kc) (.slice pa W.length pc) r⟩, .agg ⟨[str n, .int .i64 az, str s]⟩] w [] (fun v bx hp => bx = [] ∧
      if wrR r S n az s = 0 then ∃ a1 c1 a2 c2, v = .tuple #[.agg ⟨rdV (sv a1 (setN n (wrB (readN S n) az.toNat s) S).length c1) (.slice ka kn kc) (sv a2 (W.length + 1) c2) r⟩, .int .i64 0] ∧
        hp = [Seg.row a2 85 3 (W.length + 1) c2 ((W ++ [(n, az.toNat, s)]).flatMap wrL), Seg.row a1 56 2 (setN n (wrB (readN S n) az.toNat s) S).length c1 (fl (setN n (wrB (readN S n) az.toNat s) S))]
      else v = .tuple #[.agg ⟨rdV (.slice a S.length ca) (.slice ka kn kc) (.slice pa W.length pc) r⟩, .int .i64 (wrR r S n az s)] ∧ hp = []) := by
  refine Tri.enter (bx := []) (hp := []) Try.func45 rfl (by kernel_rfl) rfl (Own.nil w) ?_
  have hbn : (bl ⟨n.toArray⟩).length = n.length := by rw [bl_of]
  have hbs : (bl ⟨s.toArray⟩).length = s.length := by rw [bl_of]
  have hbr : (bl ⟨(readN S n).toArray⟩).length = (readN S n).length := by rw [bl_of]
  have hrl : (readN S n).length ≤ sumB S := by
    rcases @readN_mem S n with h5 | h5
    · rw [h5]; simp
    · exact sumB_mem h5
  have hNm : ∀ {bx : Bx} {hp : List Seg}, CallOb Try.prog ⟨w, kys [] []⟩ bx hp 69 [str n] (.bool (namedB n)) := fun {_ _} w' hw' => Try.rNamed_w n w' hn
  have hRd : ∀ {bx : Bx} {hp : List Seg}, CallOb Try.prog ⟨w, kys [] []⟩ bx hp 47 [.slice a S.length ca, str n] (str (readN S n)) := fun {_ _} w' hw' => Try.rRead_w S n a ca w' (by omega) (hS.ext hw'.ext (by simp [kys]))
  refine At.run 100 true [] [] rfl trivial ?_
  refine At.step [] rfl rfl rfl rfl rfl trivial (OpOk.box rfl rfl rfl fun bq hbq => ?_)
  refine At.step [] rfl rfl rfl rfl rfl trivial (OpOk.box rfl rfl rfl fun b3 hb3 => ?_)
  refine At.step [] rfl rfl rfl rfl rfl trivial (OpOk.alloc (cs := [.slice none 0 0, .slice none 0 0, .slice none 0 0, .int .i64 0]) rfl (by kernel_rfl) fun b4 hb4 => ?_)
  cases h1 : namedB n with
  | false =>
    have hE : wrR r S n az s = 1 := by unfold wrR; rw [if_pos (.inl h1)]
    rw [h1] at hNm
    refine At.run 100 true [true, true] [hB 1, hC (.bool false), hB 2, hB 0] rfl (by (repeat' apply And.intro) <;> first | exact hNm | exact one_of rfl | exact True.intro | omega | rfl | (simp only [inK]; omega) | exact decide_eq_true (by omega) | exact decide_eq_false (by omega) | (simp; done) | (simp; omega) | (simp [Value.oneCell']; done) | exact i64s_one _ | exact AggOk.mk (by kernel_rfl) (by kernel_rfl)) ?_
    exact At.retK [] [] [hB 0] rfl rfl Try.func45 rfl (by (repeat' apply And.intro) <;> first | exact True.intro | omega | (simp only [inK]; omega) | (simp; done) | (simp; omega) | exact decide_eq_true (by omega) | exact decide_eq_false (by omega) | rfl | (simp [Value.oneCell']; done) | exact i64s_one _ | exact AggOk.mk (by kernel_rfl) (by kernel_rfl)) ⟨rfl, by rw [if_neg (by omega), hE]; exact ⟨rfl, rfl⟩⟩
  | true =>
  rw [h1] at hNm
  by_cases h2 : s = []
  · have hE : wrR r S n az s = 1 := by unfold wrR; rw [if_pos (.inr h2)]
    subst h2
    refine At.run 100 true [false, true] [hB 1, hC (.bool true), hB 1, hB 2, hB 0] rfl (by (repeat' apply And.intro) <;> first | exact hNm | exact one_of rfl | exact True.intro | omega | rfl | (simp only [inK]; omega) | exact decide_eq_true (by omega) | exact decide_eq_false (by omega) | (simp; done) | (simp; omega) | (simp [Value.oneCell']; done) | exact i64s_one _ | exact AggOk.mk (by kernel_rfl) (by kernel_rfl)) ?_
    exact At.retK [] [] [hB 0] rfl rfl Try.func45 rfl (by (repeat' apply And.intro) <;> first | exact True.intro | omega | (simp only [inK]; omega) | (simp; done) | (simp; omega) | exact decide_eq_true (by omega) | exact decide_eq_false (by omega) | rfl | (simp [Value.oneCell']; done) | exact i64s_one _ | exact AggOk.mk (by kernel_rfl) (by kernel_rfl)) ⟨rfl, by rw [if_neg (by omega), hE]; exact ⟨rfl, rfl⟩⟩
  have hif1 : ¬ (namedB n = false ∨ s = []) := by rw [h1]; simp [h2]
  have hsd : decide (bl ⟨s.toArray⟩ = bl ⟨#[]⟩) = false := by rw [bl_of]; simp [h2, bl]
  by_cases h3 : az < 0
  · have hE : wrR r S n az s = 11 := by unfold wrR; rw [if_neg hif1, if_pos (.inl h3)]
    refine At.run 100 true [false, false, true, true] [hB 1, hC (.bool true), hB 1, hB 2, hB 1, hC (str (readN S n)), hB 1, hB 2, hB 0] rfl (by (repeat' apply And.intro) <;> first | exact hNm | exact hRd | exact hsd | exact one_of rfl | exact True.intro | omega | rfl | (simp only [inK]; omega) | exact decide_eq_true (by omega) | exact decide_eq_false (by omega) | (simp; done) | (simp; omega) | (simp [Value.oneCell']; done) | exact i64s_one _ | exact AggOk.mk (by kernel_rfl) (by kernel_rfl)) ?_
    exact At.retK [] [] [hB 0] rfl rfl Try.func45 rfl (by (repeat' apply And.intro) <;> first | exact True.intro | omega | (simp only [inK]; omega) | (simp; done) | (simp; omega) | exact decide_eq_true (by omega) | exact decide_eq_false (by omega) | rfl | (simp [Value.oneCell']; done) | exact i64s_one _ | exact AggOk.mk (by kernel_rfl) (by kernel_rfl)) ⟨rfl, by rw [if_neg (by omega), hE]; exact ⟨rfl, rfl⟩⟩
  by_cases h4 : ((readN S n).length : Int) < az
  · have hE : wrR r S n az s = 11 := by unfold wrR; rw [if_neg hif1, if_pos (.inr h4)]
    refine At.run 100 true [false, false, false, true] [hB 1, hC (.bool true), hB 1, hB 2, hB 1, hC (str (readN S n)), hB 1, hB 1, hB 2, hB 0] rfl (by (repeat' apply And.intro) <;> first | exact hNm | exact hRd | exact hsd | exact one_of rfl | exact True.intro | omega | rfl | (simp only [inK]; omega) | exact decide_eq_true (by omega) | exact decide_eq_false (by omega) | (simp; done) | (simp; omega) | (simp [Value.oneCell']; done) | exact i64s_one _ | exact AggOk.mk (by kernel_rfl) (by kernel_rfl)) ?_
    exact At.retK [] [] [hB 0] rfl rfl Try.func45 rfl (by (repeat' apply And.intro) <;> first | exact True.intro | omega | (simp only [inK]; omega) | (simp; done) | (simp; omega) | exact decide_eq_true (by omega) | exact decide_eq_false (by omega) | rfl | (simp [Value.oneCell']; done) | exact i64s_one _ | exact AggOk.mk (by kernel_rfl) (by kernel_rfl)) ⟨rfl, by rw [if_neg (by omega), hE]; exact ⟨rfl, rfl⟩⟩
  have hif2 : ¬ (az < 0 ∨ ((readN S n).length : Int) < az) := by omega
  obtain ⟨at0, rfl⟩ : ∃ k : Nat, az = k := ⟨az.toNat, by omega⟩
  rw [Int.toNat_natCast]
  refine At.run 100 true [false, false, false, false] [hB 1, hC (.bool true), hB 1, hB 2, hB 1, hC (str (readN S n)), hB 1, hB 1] rfl (by (repeat' apply And.intro) <;> first | exact hNm | exact hRd | exact hsd | exact one_of rfl | exact True.intro | omega | rfl | (simp only [inK]; omega) | exact decide_eq_true (by omega) | exact decide_eq_false (by omega) | (simp; done) | (simp; omega) | (simp [Value.oneCell']; done) | exact i64s_one _ | exact AggOk.mk (by kernel_rfl) (by kernel_rfl)) ?_
  refine At.cutS (ι := PLift (¬ (readN S n = [] ∧ S.length = 4096))) ⟨3, [0, 1, 1, 1, 1, 1], [1, 2, 3, 4, 5, 6, 7, 8, 9]⟩ (fun _ => [(43, .pointer (some ⟨bq, 0, none⟩)), (2, .pointer (some ⟨bq, 0, none⟩)), (3, .pointer (some ⟨b3, 0, none⟩)), (4, .pointer (some ⟨b4, 0, none⟩))]) (fun _ => [(b4, 76, [.slice none 0 0, .slice none 0 0, .slice none 0 0, .int .i64 0]), (b3, 85, [str n, .int .i64 at0, str s]), (bq, 76, rdV (.slice a S.length ca) (.slice ka kn kc) (.slice pa W.length pc) r)]) (fun _ => []) ?_ (fun hy => ?_)
  · rintro ⟨hif3⟩
    refine At.run 100 true [] [hB 2, hB 1, hB 1, hB 1] rfl (by (repeat' apply And.intro) <;> first | exact True.intro | omega | (simp only [inK]; omega) | (simp; done) | (simp; omega) | exact decide_eq_true (by omega) | exact decide_eq_false (by omega) | rfl | (simp [Value.oneCell']; done) | exact i64s_one _ | exact AggOk.mk (by kernel_rfl) (by kernel_rfl)) ?_
    have hpb := wrB_len (readN S n) at0 s
    have hss := setN_sum n (wrB (readN S n) at0 s) S
    refine At.step [] rfl rfl rfl rfl rfl trivial (OpOk.call rfl (fun w' hw' => Try.rPut_w S n s at0 a ca w' hlen (hS.ext hw'.ext (by simp [kys])) (by omega) (by omega)) ?_)
    rintro v bx' hp' ⟨a1, c1, rfl, rfl, rfl⟩
    refine At.run 100 true [] [] rfl (by (repeat' apply And.intro) <;> first | exact True.intro | omega | (simp only [inK]; omega) | (simp; done) | (simp; omega) | exact decide_eq_true (by omega) | exact decide_eq_false (by omega) | rfl | (simp [Value.oneCell']; done) | exact i64s_one _ | exact AggOk.mk (by kernel_rfl) (by kernel_rfl)) ?_
    have hsl := setN_len n (wrB (readN S n) at0 s) S
    have hU : ∀ {bx : Bx} {hp : List Seg}, CallOb Try.prog ⟨w, kys [] []⟩ bx (Seg.row a1 56 2 (setN n (wrB (readN S n) at0 s) S).length c1 (fl (setN n (wrB (readN S n) at0 s) S)) :: hp) 39 [sv a1 (setN n (wrB (readN S n) at0 s) S).length c1] (.int .i64 (sumB (setN n (wrB (readN S n) at0 s) S))) := fun {_ _} w' hw' =>
      Try.rUsed_w (setN n (wrB (readN S n) at0 s) S) (svA a1) c1 w' (by omega) (SlOk.row (hw'.hp (Seg.row a1 56 2 (setN n (wrB (readN S n) at0 s) S).length c1 (fl (setN n (wrB (readN S n) at0 s) S))) (by simp))) (by omega)
    refine At.quiet true [] [hC (.int .i64 (sumB (setN n (wrB (readN S n) at0 s) S))), hB 2] ⟨by kernel_rfl, by kernel_rfl, rfl, rfl, rfl⟩ rfl rfl rfl (by (repeat' apply And.intro) <;> first | exact hU | exact True.intro | omega | rfl | (simp only [inK]; omega) | exact decide_eq_true (by omega) | exact decide_eq_false (by omega) | (simp; done) | (simp; omega) | (simp [Value.oneCell']; done) | exact i64s_one _ | exact AggOk.mk (by kernel_rfl) (by kernel_rfl)) ?_
    by_cases h6 : r < sumB (setN n (wrB (readN S n) at0 s) S)
    · have hE : wrR r S n at0 s = 6 := by unfold wrR; rw [if_neg hif1, if_neg hif2, if_neg hif3, Int.toNat_natCast, if_pos h6]
      refine At.run 100 true [true] [hB 2, hB 0] rfl (by (repeat' apply And.intro) <;> first | exact one_of rfl | exact True.intro | omega | rfl | (simp only [inK]; omega) | exact decide_eq_true (by omega) | exact decide_eq_false (by omega) | (simp; done) | (simp; omega) | (simp [Value.oneCell']; done) | exact i64s_one _ | exact AggOk.mk (by kernel_rfl) (by kernel_rfl)) ?_
      refine At.keep [true, true, true] [] rfl ?_
      exact At.retK [] [] [hB 0] rfl rfl Try.func45 rfl (by (repeat' apply And.intro) <;> first | exact True.intro | omega | (simp only [inK]; omega) | (simp; done) | (simp; omega) | exact decide_eq_true (by omega) | exact decide_eq_false (by omega) | rfl | (simp [Value.oneCell']; done) | exact i64s_one _ | exact AggOk.mk (by kernel_rfl) (by kernel_rfl)) ⟨rfl, by rw [if_neg (by omega), hE]; exact ⟨rfl, rfl⟩⟩
    · have hE : wrR r S n at0 s = 0 := by unfold wrR; rw [if_neg hif1, if_neg hif2, if_neg hif3, Int.toNat_natCast, if_neg h6]
      refine At.run 100 true [false] [hB 2] rfl (by (repeat' apply And.intro) <;> first | exact one_of rfl | exact True.intro | omega | rfl | (simp only [inK]; omega) | exact decide_eq_true (by omega) | exact decide_eq_false (by omega) | (simp; done) | (simp; omega) | (simp [Value.oneCell']; done) | exact i64s_one _ | exact AggOk.mk (by kernel_rfl) (by kernel_rfl)) ?_
      refine At.draw 9 rfl rfl rfl rfl ?_
      refine AtD.cutS (ι := Nat × Option Nat × Nat × Nat) 3 #[true, true, true, true, true, true, false, false, false] (fun q => [(60, sv (some q.1) 0 0), (61, .pointer (some ⟨bq, 2, none⟩)), (62, .slice pa W.length pc), (63, sv q.2.1 (0 + W.length) q.2.2.1), (64, .agg ⟨[str n, .int .i64 at0, str s]⟩), (65, .slice (some ⟨q.2.2.2, 0, none⟩) 1 1), (2, .pointer (some ⟨bq, 0, none⟩)), (3, .pointer (some ⟨b3, 0, none⟩)), (4, .pointer (some ⟨b4, 0, none⟩))]) (fun q => [(q.2.2.2, 85, [str n, .int .i64 at0, str s]), (b4, 76, [.slice none 0 0, .slice none 0 0, .slice none 0 0, .int .i64 0]), (b3, 85, [str n, .int .i64 at0, str s]), (bq, 76, rdV (sv a1 (setN n (wrB (readN S n) at0 s) S).length c1) (.slice ka kn kc) (.slice pa W.length pc) r)]) (fun q => [Seg.row q.2.1 85 3 (0 + W.length) q.2.2.1 ([] ++ W.flatMap wrL), Seg.row a1 56 2 (setN n (wrB (readN S n) at0 s) S).length c1 (fl (setN n (wrB (readN S n) at0 s) S))]) ?_ (fun hd5 => ?_)
      · rintro ⟨g, a5, c5, bb⟩
        refine AtD.fork1 6 (by kernel_rfl) (StepD.by [] rfl rfl rfl rfl trivial (OpOk.append 0 3 40 [str n, .int .i64 at0, str s] rfl rfl rfl rfl rfl rfl rfl (RdW.blk0 (i := 0) rfl) rfl (one_of rfl) (by omega) (by omega) fun a2 c2 => ?_))
        refine AtD.pures (ob := True) true (by kernel_rfl) [7] (fuel := 1) (by kernel_rfl) rfl (by (repeat' apply And.intro) <;> first | exact True.intro | omega | (simp only [inK]; omega) | (simp; done) | (simp; omega) | exact decide_eq_true (by omega) | exact decide_eq_false (by omega) | rfl | (simp [Value.oneCell']; done) | exact i64s_one _ | exact AggOk.mk (by kernel_rfl) (by kernel_rfl)) ?_
        refine AtD.fork1 8 (by kernel_rfl) (StepD.by0 [] rfl rfl rfl trivial (OpOk.one true [] [hB 3] rfl (by (repeat' apply And.intro) <;> first | exact True.intro | omega | (simp only [inK]; omega) | (simp; done) | (simp; omega) | exact decide_eq_true (by omega) | exact decide_eq_false (by omega) | rfl | (simp [Value.oneCell']; done) | exact i64s_one _ | exact AggOk.mk (by kernel_rfl) (by kernel_rfl)) ?_))
        refine AtD.done (by kernel_rfl) ?_
        refine At.run 100 true [] [hB 3, hB 1] rfl (by (repeat' apply And.intro) <;> first | exact one_of rfl | exact True.intro | omega | rfl | (simp only [inK]; omega) | exact decide_eq_true (by omega) | exact decide_eq_false (by omega) | (simp; done) | (simp; omega) | (simp [Value.oneCell']; done) | exact i64s_one _ | exact AggOk.mk (by kernel_rfl) (by kernel_rfl)) ?_
        refine At.retK [] [true, true] [hB 1] rfl rfl Try.func45 rfl (by (repeat' apply And.intro) <;> first | exact True.intro | omega | (simp only [inK]; omega) | (simp; done) | (simp; omega) | exact decide_eq_true (by omega) | exact decide_eq_false (by omega) | rfl | (simp [Value.oneCell']; done) | exact i64s_one _ | exact AggOk.mk (by kernel_rfl) (by kernel_rfl)) ⟨rfl, ?_⟩
        rw [hE, if_pos rfl]
        exact ⟨a1, c1, a2, c2, by rw [Nat.zero_add]; rfl, by rw [Nat.zero_add, List.flatMap_append, List.flatMap_singleton, List.nil_append]; rfl⟩
      refine AtD.cutS (ι := Nat × Option Nat × Nat) 4 #[true, true, true, true, true, false, false, false, false] (fun q => [(60, sv (some q.1) 0 0), (61, .pointer (some ⟨bq, 2, none⟩)), (62, .slice pa W.length pc), (63, sv q.2.1 (0 + W.length) q.2.2), (64, .agg ⟨[str n, .int .i64 at0, str s]⟩), (2, .pointer (some ⟨bq, 0, none⟩)), (3, .pointer (some ⟨b3, 0, none⟩)), (4, .pointer (some ⟨b4, 0, none⟩))]) (fun q => [(b4, 76, [.slice none 0 0, .slice none 0 0, .slice none 0 0, .int .i64 0]), (b3, 85, [str n, .int .i64 at0, str s]), (bq, 76, rdV (sv a1 (setN n (wrB (readN S n) at0 s) S).length c1) (.slice ka kn kc) (.slice pa W.length pc) r)]) (fun q => [Seg.row q.2.1 85 3 (0 + W.length) q.2.2 ([] ++ W.flatMap wrL), Seg.row a1 56 2 (setN n (wrB (readN S n) at0 s) S).length c1 (fl (setN n (wrB (readN S n) at0 s) S))]) ?_ (fun hd4 => ?_)
      · rintro ⟨g, a5, c5⟩
        refine AtD.fork1 5 (by kernel_rfl) ?_
        refine StepD.by [] rfl rfl rfl rfl trivial (OpOk.buildSlice rfl rfl rfl rfl rfl rfl rfl (fun bb hbb => ?_))
        exact AtD.weak (hd5 (g, a5, c5, bb)) ⟨rfl, rfl, rfl, rfl, rfl, rfl, rfl, rfl, rfl, trivial⟩
      refine AtD.cutS (ι := Nat × Option Nat × Nat) 5 #[true, true, true, true, false, false, false, false, false] (fun q => [(60, sv (some q.1) 0 0), (61, .pointer (some ⟨bq, 2, none⟩)), (62, .slice pa W.length pc), (63, sv q.2.1 (0 + W.length) q.2.2), (2, .pointer (some ⟨bq, 0, none⟩)), (3, .pointer (some ⟨b3, 0, none⟩)), (4, .pointer (some ⟨b4, 0, none⟩))]) (fun q => [(b4, 76, [.slice none 0 0, .slice none 0 0, .slice none 0 0, .int .i64 0]), (b3, 85, [str n, .int .i64 at0, str s]), (bq, 76, rdV (sv a1 (setN n (wrB (readN S n) at0 s) S).length c1) (.slice ka kn kc) (.slice pa W.length pc) r)]) (fun q => [Seg.row q.2.1 85 3 (0 + W.length) q.2.2 ([] ++ W.flatMap wrL), Seg.row a1 56 2 (setN n (wrB (readN S n) at0 s) S).length c1 (fl (setN n (wrB (readN S n) at0 s) S))]) ?_ (fun hd3 => ?_)
      · rintro ⟨g, a5, c5⟩
        refine AtD.fork1 4 (by kernel_rfl) ?_
        refine StepD.by [] rfl rfl rfl rfl trivial (OpOk.one true [] [hB 1] rfl (by (repeat' apply And.intro) <;> first | exact True.intro | omega | (simp only [inK]; omega) | (simp; done) | (simp; omega) | exact decide_eq_true (by omega) | exact decide_eq_false (by omega) | rfl | (simp [Value.oneCell']; done) | exact i64s_one _ | exact AggOk.mk (by kernel_rfl) (by kernel_rfl)) ?_)
        exact AtD.weak (hd4 (g, a5, c5)) ⟨rfl, rfl, rfl, rfl, rfl, rfl, rfl, rfl, trivial⟩
      refine AtD.cutS (ι := Nat × Nat) 4 #[true, true, true, false, true, true, false, false, false] (fun q => [(60, sv (some q.1) 0 0), (61, .pointer (some ⟨bq, 2, none⟩)), (62, .slice pa W.length pc), (64, .agg ⟨[str n, .int .i64 at0, str s]⟩), (65, .slice (some ⟨q.2, 0, none⟩) 1 1), (2, .pointer (some ⟨bq, 0, none⟩)), (3, .pointer (some ⟨b3, 0, none⟩)), (4, .pointer (some ⟨b4, 0, none⟩))]) (fun q => [(q.2, 85, [str n, .int .i64 at0, str s]), (b4, 76, [.slice none 0 0, .slice none 0 0, .slice none 0 0, .int .i64 0]), (b3, 85, [str n, .int .i64 at0, str s]), (bq, 76, rdV (sv a1 (setN n (wrB (readN S n) at0 s) S).length c1) (.slice ka kn kc) (.slice pa W.length pc) r)]) (fun q => [Seg.row (some q.1) 85 3 0 0 [], Seg.row a1 56 2 (setN n (wrB (readN S n) at0 s) S).length c1 (fl (setN n (wrB (readN S n) at0 s) S))]) ?_ (fun hd7 => ?_)
      · rintro ⟨g, bb⟩
        refine AtD.fork1 3 (by kernel_rfl) ?_
        refine StepD.by [] rfl rfl rfl rfl trivial (OpOk.appendS 0 3 40 (W.flatMap wrL) rfl rfl rfl rfl rfl rfl rfl rfl (fun w' hw' => hP.ext hw'.ext (by simp [kys])) (wrL_len W) wrL_one (by omega) (by omega) (fun a5 c5 => ?_))
        exact AtD.weak (hd5 (g, a5, c5, bb)) ⟨rfl, rfl, rfl, rfl, rfl, rfl, rfl, rfl, rfl, trivial⟩
      refine AtD.cutS (ι := Nat) 5 #[true, true, true, false, true, false, false, false, false] (fun q => [(60, sv (some q) 0 0), (61, .pointer (some ⟨bq, 2, none⟩)), (62, .slice pa W.length pc), (64, .agg ⟨[str n, .int .i64 at0, str s]⟩), (2, .pointer (some ⟨bq, 0, none⟩)), (3, .pointer (some ⟨b3, 0, none⟩)), (4, .pointer (some ⟨b4, 0, none⟩))]) (fun q => [(b4, 76, [.slice none 0 0, .slice none 0 0, .slice none 0 0, .int .i64 0]), (b3, 85, [str n, .int .i64 at0, str s]), (bq, 76, rdV (sv a1 (setN n (wrB (readN S n) at0 s) S).length c1) (.slice ka kn kc) (.slice pa W.length pc) r)]) (fun q => [Seg.row (some q) 85 3 0 0 [], Seg.row a1 56 2 (setN n (wrB (readN S n) at0 s) S).length c1 (fl (setN n (wrB (readN S n) at0 s) S))]) ?_ (fun hd6 => ?_)
      · rintro g
        refine AtD.fork2 3 5 (by kernel_rfl) ?_ ?_
        · refine StepD.by [] rfl rfl rfl rfl trivial (OpOk.appendS 0 3 40 (W.flatMap wrL) rfl rfl rfl rfl rfl rfl rfl rfl (fun w' hw' => hP.ext hw'.ext (by simp [kys])) (wrL_len W) wrL_one (by omega) (by omega) (fun a5 c5 => ?_))
          exact AtD.weak (hd4 (g, a5, c5)) ⟨rfl, rfl, rfl, rfl, rfl, rfl, rfl, rfl, trivial⟩
        · refine StepD.by [] rfl rfl rfl rfl trivial (OpOk.buildSlice rfl rfl rfl rfl rfl rfl rfl (fun bb hbb => ?_))
          exact AtD.weak (hd7 (g, bb)) ⟨rfl, rfl, rfl, rfl, rfl, rfl, rfl, rfl, trivial⟩
      refine AtD.cutS (ι := Nat) 6 #[true, true, true, false, false, false, false, false, false] (fun q => [(60, sv (some q) 0 0), (61, .pointer (some ⟨bq, 2, none⟩)), (62, .slice pa W.length pc), (2, .pointer (some ⟨bq, 0, none⟩)), (3, .pointer (some ⟨b3, 0, none⟩)), (4, .pointer (some ⟨b4, 0, none⟩))]) (fun q => [(b4, 76, [.slice none 0 0, .slice none 0 0, .slice none 0 0, .int .i64 0]), (b3, 85, [str n, .int .i64 at0, str s]), (bq, 76, rdV (sv a1 (setN n (wrB (readN S n) at0 s) S).length c1) (.slice ka kn kc) (.slice pa W.length pc) r)]) (fun q => [Seg.row (some q) 85 3 0 0 [], Seg.row a1 56 2 (setN n (wrB (readN S n) at0 s) S).length c1 (fl (setN n (wrB (readN S n) at0 s) S))]) ?_ (fun hd2 => ?_)
      · rintro g
        refine AtD.fork2 3 4 (by kernel_rfl) ?_ ?_
        · refine StepD.by [] rfl rfl rfl rfl trivial (OpOk.appendS 0 3 40 (W.flatMap wrL) rfl rfl rfl rfl rfl rfl rfl rfl (fun w' hw' => hP.ext hw'.ext (by simp [kys])) (wrL_len W) wrL_one (by omega) (by omega) (fun a5 c5 => ?_))
          exact AtD.weak (hd3 (g, a5, c5)) ⟨rfl, rfl, rfl, rfl, rfl, rfl, rfl, trivial⟩
        · refine StepD.by [] rfl rfl rfl rfl trivial (OpOk.one true [] [hB 1] rfl (by (repeat' apply And.intro) <;> first | exact True.intro | omega | (simp only [inK]; omega) | (simp; done) | (simp; omega) | exact decide_eq_true (by omega) | exact decide_eq_false (by omega) | rfl | (simp [Value.oneCell']; done) | exact i64s_one _ | exact AggOk.mk (by kernel_rfl) (by kernel_rfl)) ?_)
          exact AtD.weak (hd6 g) ⟨rfl, rfl, rfl, rfl, rfl, rfl, rfl, trivial⟩
      refine AtD.cutS (ι := Nat × Nat) 5 #[true, true, false, false, true, true, false, false, false] (fun q => [(60, sv (some q.1) 0 0), (61, .pointer (some ⟨bq, 2, none⟩)), (64, .agg ⟨[str n, .int .i64 at0, str s]⟩), (65, .slice (some ⟨q.2, 0, none⟩) 1 1), (2, .pointer (some ⟨bq, 0, none⟩)), (3, .pointer (some ⟨b3, 0, none⟩)), (4, .pointer (some ⟨b4, 0, none⟩))]) (fun q => [(q.2, 85, [str n, .int .i64 at0, str s]), (b4, 76, [.slice none 0 0, .slice none 0 0, .slice none 0 0, .int .i64 0]), (b3, 85, [str n, .int .i64 at0, str s]), (bq, 76, rdV (sv a1 (setN n (wrB (readN S n) at0 s) S).length c1) (.slice ka kn kc) (.slice pa W.length pc) r)]) (fun q => [Seg.row (some q.1) 85 3 0 0 [], Seg.row a1 56 2 (setN n (wrB (readN S n) at0 s) S).length c1 (fl (setN n (wrB (readN S n) at0 s) S))]) ?_ (fun hd9 => ?_)
      · rintro ⟨g, bb⟩
        refine AtD.fork1 2 (by kernel_rfl) ?_
        refine StepD.by [] rfl rfl rfl rfl trivial (OpOk.one true [] [hB 3] rfl rfl ?_)
        exact AtD.weak (hd7 (g, bb)) ⟨rfl, rfl, rfl, rfl, rfl, rfl, rfl, rfl, trivial⟩
      refine AtD.cutS (ι := Nat) 6 #[true, true, false, false, true, false, false, false, false] (fun q => [(60, sv (some q) 0 0), (61, .pointer (some ⟨bq, 2, none⟩)), (64, .agg ⟨[str n, .int .i64 at0, str s]⟩), (2, .pointer (some ⟨bq, 0, none⟩)), (3, .pointer (some ⟨b3, 0, none⟩)), (4, .pointer (some ⟨b4, 0, none⟩))]) (fun q => [(b4, 76, [.slice none 0 0, .slice none 0 0, .slice none 0 0, .int .i64 0]), (b3, 85, [str n, .int .i64 at0, str s]), (bq, 76, rdV (sv a1 (setN n (wrB (readN S n) at0 s) S).length c1) (.slice ka kn kc) (.slice pa W.length pc) r)]) (fun q => [Seg.row (some q) 85 3 0 0 [], Seg.row a1 56 2 (setN n (wrB (readN S n) at0 s) S).length c1 (fl (setN n (wrB (readN S n) at0 s) S))]) ?_ (fun hd8 => ?_)
      · rintro g
        refine AtD.fork2 2 5 (by kernel_rfl) ?_ ?_
        · refine StepD.by [] rfl rfl rfl rfl trivial (OpOk.one true [] [hB 2] rfl rfl ?_)
          exact AtD.weak (hd6 g) ⟨rfl, rfl, rfl, rfl, rfl, rfl, rfl, trivial⟩
        · refine StepD.by [] rfl rfl rfl rfl trivial (OpOk.buildSlice rfl rfl rfl rfl rfl rfl rfl (fun bb hbb => ?_))
          exact AtD.weak (hd9 (g, bb)) ⟨rfl, rfl, rfl, rfl, rfl, rfl, rfl, trivial⟩
      refine AtD.cutS (ι := Nat) 7 #[true, true, false, false, false, false, false, false, false] (fun q => [(60, sv (some q) 0 0), (61, .pointer (some ⟨bq, 2, none⟩)), (2, .pointer (some ⟨bq, 0, none⟩)), (3, .pointer (some ⟨b3, 0, none⟩)), (4, .pointer (some ⟨b4, 0, none⟩))]) (fun q => [(b4, 76, [.slice none 0 0, .slice none 0 0, .slice none 0 0, .int .i64 0]), (b3, 85, [str n, .int .i64 at0, str s]), (bq, 76, rdV (sv a1 (setN n (wrB (readN S n) at0 s) S).length c1) (.slice ka kn kc) (.slice pa W.length pc) r)]) (fun q => [Seg.row (some q) 85 3 0 0 [], Seg.row a1 56 2 (setN n (wrB (readN S n) at0 s) S).length c1 (fl (setN n (wrB (readN S n) at0 s) S))]) ?_ (fun hd1 => ?_)
      · rintro g
        refine AtD.fork2 2 4 (by kernel_rfl) ?_ ?_
        · refine StepD.by [] rfl rfl rfl rfl trivial (OpOk.one true [] [hB 2] rfl rfl ?_)
          exact AtD.weak (hd2 g) ⟨rfl, rfl, rfl, rfl, rfl, rfl, trivial⟩
        · refine StepD.by [] rfl rfl rfl rfl trivial (OpOk.one true [] [hB 1] rfl (by (repeat' apply And.intro) <;> first | exact True.intro | omega | (simp only [inK]; omega) | (simp; done) | (simp; omega) | exact decide_eq_true (by omega) | exact decide_eq_false (by omega) | rfl | (simp [Value.oneCell']; done) | exact i64s_one _ | exact AggOk.mk (by kernel_rfl) (by kernel_rfl)) ?_)
          exact AtD.weak (hd8 g) ⟨rfl, rfl, rfl, rfl, rfl, rfl, trivial⟩
      refine AtD.cutS (ι := Nat) 5 #[false, true, true, false, true, true, false, false, false] (fun q => [(61, .pointer (some ⟨bq, 2, none⟩)), (62, .slice pa W.length pc), (64, .agg ⟨[str n, .int .i64 at0, str s]⟩), (65, .slice (some ⟨q, 0, none⟩) 1 1), (2, .pointer (some ⟨bq, 0, none⟩)), (3, .pointer (some ⟨b3, 0, none⟩)), (4, .pointer (some ⟨b4, 0, none⟩))]) (fun q => [(q, 85, [str n, .int .i64 at0, str s]), (b4, 76, [.slice none 0 0, .slice none 0 0, .slice none 0 0, .int .i64 0]), (b3, 85, [str n, .int .i64 at0, str s]), (bq, 76, rdV (sv a1 (setN n (wrB (readN S n) at0 s) S).length c1) (.slice ka kn kc) (.slice pa W.length pc) r)]) (fun q => [Seg.row a1 56 2 (setN n (wrB (readN S n) at0 s) S).length c1 (fl (setN n (wrB (readN S n) at0 s) S))]) ?_ (fun hd12 => ?_)
      · rintro bb
        refine AtD.fork1 0 (by kernel_rfl) ?_
        refine StepD.by [] rfl rfl rfl rfl trivial (OpOk.buildNil rfl rfl rfl fun g hg => ?_)
        exact AtD.weak (hd7 (g, bb)) ⟨rfl, rfl, rfl, rfl, rfl, rfl, rfl, rfl, trivial⟩
      refine AtD.cutS (ι := Unit) 6 #[false, true, true, false, true, false, false, false, false] (fun _ => [(61, .pointer (some ⟨bq, 2, none⟩)), (62, .slice pa W.length pc), (64, .agg ⟨[str n, .int .i64 at0, str s]⟩), (2, .pointer (some ⟨bq, 0, none⟩)), (3, .pointer (some ⟨b3, 0, none⟩)), (4, .pointer (some ⟨b4, 0, none⟩))]) (fun _ => [(b4, 76, [.slice none 0 0, .slice none 0 0, .slice none 0 0, .int .i64 0]), (b3, 85, [str n, .int .i64 at0, str s]), (bq, 76, rdV (sv a1 (setN n (wrB (readN S n) at0 s) S).length c1) (.slice ka kn kc) (.slice pa W.length pc) r)]) (fun _ => [Seg.row a1 56 2 (setN n (wrB (readN S n) at0 s) S).length c1 (fl (setN n (wrB (readN S n) at0 s) S))]) ?_ (fun hd11 => ?_)
      · rintro ⟨⟩
        refine AtD.fork2 0 5 (by kernel_rfl) ?_ ?_
        · refine StepD.by [] rfl rfl rfl rfl trivial (OpOk.buildNil rfl rfl rfl fun g hg => ?_)
          exact AtD.weak (hd6 g) ⟨rfl, rfl, rfl, rfl, rfl, rfl, rfl, trivial⟩
        · refine StepD.by [] rfl rfl rfl rfl trivial (OpOk.buildSlice rfl rfl rfl rfl rfl rfl rfl (fun bb hbb => ?_))
          exact AtD.weak (hd12 bb) ⟨rfl, rfl, rfl, rfl, rfl, rfl, rfl, trivial⟩
      refine AtD.cutS (ι := Unit) 7 #[false, true, true, false, false, false, false, false, false] (fun _ => [(61, .pointer (some ⟨bq, 2, none⟩)), (62, .slice pa W.length pc), (2, .pointer (some ⟨bq, 0, none⟩)), (3, .pointer (some ⟨b3, 0, none⟩)), (4, .pointer (some ⟨b4, 0, none⟩))]) (fun _ => [(b4, 76, [.slice none 0 0, .slice none 0 0, .slice none 0 0, .int .i64 0]), (b3, 85, [str n, .int .i64 at0, str s]), (bq, 76, rdV (sv a1 (setN n (wrB (readN S n) at0 s) S).length c1) (.slice ka kn kc) (.slice pa W.length pc) r)]) (fun _ => [Seg.row a1 56 2 (setN n (wrB (readN S n) at0 s) S).length c1 (fl (setN n (wrB (readN S n) at0 s) S))]) ?_ (fun hd10 => ?_)
      · rintro ⟨⟩
        refine AtD.fork2 0 4 (by kernel_rfl) ?_ ?_
        · refine StepD.by [] rfl rfl rfl rfl trivial (OpOk.buildNil rfl rfl rfl fun g hg => ?_)
          exact AtD.weak (hd2 g) ⟨rfl, rfl, rfl, rfl, rfl, rfl, trivial⟩
        · refine StepD.by [] rfl rfl rfl rfl trivial (OpOk.one true [] [hB 1] rfl (by (repeat' apply And.intro) <;> first | exact True.intro | omega | (simp only [inK]; omega) | (simp; done) | (simp; omega) | exact decide_eq_true (by omega) | exact decide_eq_false (by omega) | rfl | (simp [Value.oneCell']; done) | exact i64s_one _ | exact AggOk.mk (by kernel_rfl) (by kernel_rfl)) ?_)
          exact AtD.weak (hd11 ()) ⟨rfl, rfl, rfl, rfl, rfl, rfl, trivial⟩
      refine AtD.cutS (ι := Nat) 6 #[false, true, false, false, true, true, false, false, false] (fun q => [(61, .pointer (some ⟨bq, 2, none⟩)), (64, .agg ⟨[str n, .int .i64 at0, str s]⟩), (65, .slice (some ⟨q, 0, none⟩) 1 1), (2, .pointer (some ⟨bq, 0, none⟩)), (3, .pointer (some ⟨b3, 0, none⟩)), (4, .pointer (some ⟨b4, 0, none⟩))]) (fun q => [(q, 85, [str n, .int .i64 at0, str s]), (b4, 76, [.slice none 0 0, .slice none 0 0, .slice none 0 0, .int .i64 0]), (b3, 85, [str n, .int .i64 at0, str s]), (bq, 76, rdV (sv a1 (setN n (wrB (readN S n) at0 s) S).length c1) (.slice ka kn kc) (.slice pa W.length pc) r)]) (fun q => [Seg.row a1 56 2 (setN n (wrB (readN S n) at0 s) S).length c1 (fl (setN n (wrB (readN S n) at0 s) S))]) ?_ (fun hd14 => ?_)
      · rintro bb
        refine AtD.fork2 0 2 (by kernel_rfl) ?_ ?_
        · refine StepD.by [] rfl rfl rfl rfl trivial (OpOk.buildNil rfl rfl rfl fun g hg => ?_)
          exact AtD.weak (hd9 (g, bb)) ⟨rfl, rfl, rfl, rfl, rfl, rfl, rfl, trivial⟩
        · refine StepD.by [] rfl rfl rfl rfl trivial (OpOk.one true [] [hB 3] rfl rfl ?_)
          exact AtD.weak (hd12 bb) ⟨rfl, rfl, rfl, rfl, rfl, rfl, rfl, trivial⟩
      refine AtD.cutS (ι := Unit) 7 #[false, true, false, false, true, false, false, false, false] (fun _ => [(61, .pointer (some ⟨bq, 2, none⟩)), (64, .agg ⟨[str n, .int .i64 at0, str s]⟩), (2, .pointer (some ⟨bq, 0, none⟩)), (3, .pointer (some ⟨b3, 0, none⟩)), (4, .pointer (some ⟨b4, 0, none⟩))]) (fun _ => [(b4, 76, [.slice none 0 0, .slice none 0 0, .slice none 0 0, .int .i64 0]), (b3, 85, [str n, .int .i64 at0, str s]), (bq, 76, rdV (sv a1 (setN n (wrB (readN S n) at0 s) S).length c1) (.slice ka kn kc) (.slice pa W.length pc) r)]) (fun _ => [Seg.row a1 56 2 (setN n (wrB (readN S n) at0 s) S).length c1 (fl (setN n (wrB (readN S n) at0 s) S))]) ?_ (fun hd13 => ?_)
      · rintro ⟨⟩
        refine AtD.fork3 0 2 5 (by kernel_rfl) ?_ ?_ ?_
        · refine StepD.by [] rfl rfl rfl rfl trivial (OpOk.buildNil rfl rfl rfl fun g hg => ?_)
          exact AtD.weak (hd8 g) ⟨rfl, rfl, rfl, rfl, rfl, rfl, trivial⟩
        · refine StepD.by [] rfl rfl rfl rfl trivial (OpOk.one true [] [hB 2] rfl rfl ?_)
          exact AtD.weak (hd11 ()) ⟨rfl, rfl, rfl, rfl, rfl, rfl, trivial⟩
        · refine StepD.by [] rfl rfl rfl rfl trivial (OpOk.buildSlice rfl rfl rfl rfl rfl rfl rfl (fun bb hbb => ?_))
          exact AtD.weak (hd14 bb) ⟨rfl, rfl, rfl, rfl, rfl, rfl, trivial⟩
      refine AtD.cutS (ι := Unit) 8 #[false, true, false, false, false, false, false, false, false] (fun _ => [(61, .pointer (some ⟨bq, 2, none⟩)), (2, .pointer (some ⟨bq, 0, none⟩)), (3, .pointer (some ⟨b3, 0, none⟩)), (4, .pointer (some ⟨b4, 0, none⟩))]) (fun _ => [(b4, 76, [.slice none 0 0, .slice none 0 0, .slice none 0 0, .int .i64 0]), (b3, 85, [str n, .int .i64 at0, str s]), (bq, 76, rdV (sv a1 (setN n (wrB (readN S n) at0 s) S).length c1) (.slice ka kn kc) (.slice pa W.length pc) r)]) (fun _ => [Seg.row a1 56 2 (setN n (wrB (readN S n) at0 s) S).length c1 (fl (setN n (wrB (readN S n) at0 s) S))]) ?_ (fun hd0 => ?_)
      · rintro ⟨⟩
        refine AtD.fork3 0 2 4 (by kernel_rfl) ?_ ?_ ?_
        · refine StepD.by [] rfl rfl rfl rfl trivial (OpOk.buildNil rfl rfl rfl fun g hg => ?_)
          exact AtD.weak (hd1 g) ⟨rfl, rfl, rfl, rfl, rfl, trivial⟩
        · refine StepD.by [] rfl rfl rfl rfl trivial (OpOk.one true [] [hB 2] rfl rfl ?_)
          exact AtD.weak (hd10 ()) ⟨rfl, rfl, rfl, rfl, rfl, trivial⟩
        · refine StepD.by [] rfl rfl rfl rfl trivial (OpOk.one true [] [hB 1] rfl (by (repeat' apply And.intro) <;> first | exact True.intro | omega | (simp only [inK]; omega) | (simp; done) | (simp; omega) | exact decide_eq_true (by omega) | exact decide_eq_false (by omega) | rfl | (simp [Value.oneCell']; done) | exact i64s_one _ | exact AggOk.mk (by kernel_rfl) (by kernel_rfl)) ?_)
          exact AtD.weak (hd13 ()) ⟨rfl, rfl, rfl, rfl, rfl, trivial⟩
      refine AtD.pures (ob := True) true (by kernel_rfl) [1] (fuel := 8) (by kernel_rfl) rfl (by (repeat' apply And.intro) <;> first | exact True.intro | omega | (simp only [inK]; omega) | (simp; done) | (simp; omega) | exact decide_eq_true (by omega) | exact decide_eq_false (by omega) | rfl | (simp [Value.oneCell']; done) | exact i64s_one _ | exact AggOk.mk (by kernel_rfl) (by kernel_rfl)) ?_
      exact AtD.weak (hd0 ()) ⟨rfl, rfl, rfl, rfl, trivial⟩
  · by_cases h5 : readN S n = []
    · by_cases h7 : S.length = 4096
      · have hE : wrR r S n at0 s = 4 := by unfold wrR; rw [if_neg hif1, if_neg hif2, if_pos ⟨h5, h7⟩]
        have hd : decide (bl ⟨(readN S n).toArray⟩ = bl ⟨#[]⟩) = true := by rw [bl_of]; simp [h5, bl]
        refine At.run 100 true [true, true] [hB 2, hB 2, hB 0] rfl (by (repeat' apply And.intro) <;> first | exact hd | exact one_of rfl | exact True.intro | omega | rfl | (simp only [inK]; omega) | exact decide_eq_true (by omega) | exact decide_eq_false (by omega) | (simp; done) | (simp; omega) | (simp [Value.oneCell']; done) | exact i64s_one _ | exact AggOk.mk (by kernel_rfl) (by kernel_rfl)) ?_
        exact At.retK [] [] [hB 0] rfl rfl Try.func45 rfl (by (repeat' apply And.intro) <;> first | exact True.intro | omega | (simp only [inK]; omega) | (simp; done) | (simp; omega) | exact decide_eq_true (by omega) | exact decide_eq_false (by omega) | rfl | (simp [Value.oneCell']; done) | exact i64s_one _ | exact AggOk.mk (by kernel_rfl) (by kernel_rfl)) ⟨rfl, by rw [if_neg (by omega), hE]; exact ⟨rfl, rfl⟩⟩
      · have hd : decide (bl ⟨(readN S n).toArray⟩ = bl ⟨#[]⟩) = true := by rw [bl_of]; simp [h5, bl]
        refine At.run 100 true [true, false] [hB 2] rfl (by (repeat' apply And.intro) <;> first | exact hd | exact True.intro | omega | rfl | (simp only [inK]; omega) | exact decide_eq_true (by omega) | exact decide_eq_false (by omega) | (simp; done) | (simp; omega) | (simp [Value.oneCell']; done) | exact i64s_one _ | exact AggOk.mk (by kernel_rfl) (by kernel_rfl)) ?_
        exact At.weak (hy ⟨fun h => h7 h.2⟩) ⟨rfl, rfl, rfl, rfl, trivial⟩
    · have hd : decide (bl ⟨(readN S n).toArray⟩ = bl ⟨#[]⟩) = false := by rw [bl_of]; simp [h5, bl]
      refine At.run 100 true [false, false] [] rfl (by (repeat' apply And.intro) <;> first | exact hd | exact True.intro | omega | rfl | (simp only [inK]; omega) | exact decide_eq_true (by omega) | exact decide_eq_false (by omega) | (simp; done) | (simp; omega) | (simp [Value.oneCell']; done) | exact i64s_one _ | exact AggOk.mk (by kernel_rfl) (by kernel_rfl)) ?_
      exact At.weak (hy ⟨fun h => h5 h.1⟩) ⟨rfl, rfl, rfl, rfl, trivial⟩

end Go.Proofs

/-
  Walks of layer 9: a disk synced, and cut; does a disk stand as the document says?
-/
namespace Go.Proofs
open Go Go.Eng
set_option maxRecDepth 100000
set_option maxHeartbeats 4000000
attribute [local irreducible] Tri

theorem SlOk.take {w : World} {a : Option Addr} {xs : List Value} (h : SlOk w a xs) (k : Nat) : SlOk w a (xs.take k) := by
  rcases h with rfl | ⟨b, o, h1, h2⟩
  · exact .inl (by simp)
  · refine .inr ⟨b, o, h1, fun j u hu => h2 j u ?_⟩
    rw [List.getElem?_take] at hu
    split at hu
    · exact hu
    · cases hu
theorem FilesOk.capF {w : World} {t : TypeId} {b : Nat} {F : List FileE} (h : FilesOk w t b F) {n : List UInt8} {a : Option Addr} {m c : Nat} (hv : valF F n = .slice a m c) : m ≤ c := by
  unfold valF at hv
  split at hv
  · rename_i f hf
    have := (h.row f (getF_some hf).1).le
    simp only [sv, Value.slice.injEq] at hv
    omega
  · simp only [sv, Value.slice.injEq] at hv
    omega

theorem Try.DSync_w (d r bs : Nat) (kk : Option Nat) (pa : Option Addr) (pn pc : Nat) (FS : List FileE) (w : World) (hown : Own [(d, 112, dkV r bs (.map kk) (.slice pa pn pc))] [Seg.files 5 bs FS] w) (hFb : FOK (nbs FS)) :
    Tri Try.prog 40 [.pointer (some ⟨d, 0, none⟩)] w (kys [(d, 112, dkV r bs (.map kk) (.slice pa pn pc))] [Seg.files 5 bs FS])
      (fun v bx hp => v = .int .i64 0 ∧ ∃ b2 F2, bx = [(d, 112, dkV r bs (.map (some b2)) (.slice none 0 0))] ∧ hp = [Seg.files 5 b2 F2, Seg.files 5 bs FS] ∧ (nbs F2).Perm (nbs FS)) := by
  refine Tri.enter Try.func40 rfl (by kernel_rfl) rfl hown ?_
  refine At.run 100 true [false] [hB 0] rfl (by (repeat' apply And.intro) <;> first | exact True.intro | omega | (simp only [inK]; omega) | (simp; done) | (simp; omega) | exact decide_eq_true (by omega) | exact decide_eq_false (by omega) | rfl | (simp [Value.oneCell']; done) | exact i64s_one _ | exact AggOk.mk (by kernel_rfl) (by kernel_rfl)) ?_
  refine At.step [] rfl rfl rfl rfl rfl trivial (OpOk.call rfl (fun w' hw' => Try.copied_w bs FS w' (hw'.files (by simp)) (fun f hf => by have := hFb _ (mem_nbs hf); simp only at this; omega)) ?_)
  rintro v bx' hp' ⟨b2, F2, rfl, rfl, rfl, hp2⟩
  refine At.run 100 true [] [hB 0, hB 0] rfl (by (repeat' apply And.intro) <;> first | exact True.intro | omega | (simp only [inK]; omega) | (simp; done) | (simp; omega) | exact decide_eq_true (by omega) | exact decide_eq_false (by omega) | rfl | (simp [Value.oneCell']; done) | exact i64s_one _ | exact AggOk.mk (by kernel_rfl) (by kernel_rfl)) ?_
  exact At.ret [] rfl Try.func40 rfl trivial ⟨rfl, b2, F2, rfl, rfl, hp2⟩

theorem Try.DCut_w (d r bs : Nat) (kk : Option Nat) (pa : Option Addr) (pn pc : Nat) (FS : List FileE) (n : List UInt8) (m : Int) (w : World) (hown : Own [(d, 112, dkV r bs (.map kk) (.slice pa pn pc))] [Seg.files 5 bs FS] w) (hFb : FOK (nbs FS)) (hm : inK .i64 m) (hpn : pn ≤ 9223372036854775807) :
    Tri Try.prog 42 [.pointer (some ⟨d, 0, none⟩), str n, .int .i64 m] w (kys [(d, 112, dkV r bs (.map kk) (.slice pa pn pc))] [Seg.files 5 bs FS])
      (fun v bx hp => if 0 < pn then v = .int .i64 8 ∧ bx = [(d, 112, dkV r bs (.map kk) (.slice pa pn pc))] ∧ hp = [Seg.files 5 bs FS]
        else if m < 0 then v = .int .i64 1 ∧ bx = [(d, 112, dkV r bs (.map kk) (.slice pa pn pc))] ∧ hp = [Seg.files 5 bs FS]
        else if ((bytesF FS n).length : Int) ≤ m then v = .int .i64 0 ∧ bx = [(d, 112, dkV r bs (.map kk) (.slice pa pn pc))] ∧ hp = [Seg.files 5 bs FS]
        else v = .int .i64 0 ∧ ∃ b2 F2 g c, bx = [(d, 112, dkV r bs (.map (some b2)) (.slice pa pn pc))] ∧
          hp = [Seg.files 5 b2 F2, Seg.files 5 bs (if m = 0 then delF FS n else putF FS ⟨n, (bytesF FS n).take m.toNat, g, c⟩)] ∧ (nbs F2).Perm (nbs (if m = 0 then delF FS n else putF FS ⟨n, (bytesF FS n).take m.toNat, g, c⟩))) := by
  refine Tri.enter Try.func42 rfl (by kernel_rfl) rfl hown ?_
  by_cases h1 : 0 < pn
  · refine At.run 100 true [false, true, true] [hB 0] rfl (by (repeat' apply And.intro) <;> first | exact True.intro | omega | (simp only [inK]; omega) | (simp; done) | (simp; omega) | exact decide_eq_true (by omega) | exact decide_eq_false (by omega) | rfl | (simp [Value.oneCell']; done) | exact i64s_one _ | exact AggOk.mk (by kernel_rfl) (by kernel_rfl)) ?_
    exact At.ret [] rfl Try.func42 rfl trivial (by rw [if_pos h1]; exact ⟨rfl, rfl, rfl⟩)
  by_cases h2 : m < 0
  · refine At.run 100 true [false, false, true] [hB 0] rfl (by (repeat' apply And.intro) <;> first | exact True.intro | omega | (simp only [inK]; omega) | (simp; done) | (simp; omega) | exact decide_eq_true (by omega) | exact decide_eq_false (by omega) | rfl | (simp [Value.oneCell']; done) | exact i64s_one _ | exact AggOk.mk (by kernel_rfl) (by kernel_rfl)) ?_
    exact At.ret [] rfl Try.func42 rfl trivial (by rw [if_neg h1, if_pos h2]; exact ⟨rfl, rfl, rfl⟩)
  obtain ⟨ao, co, hval, hsl⟩ := FilesOk.slF (hown.files (t := 5) (b := bs) (F := FS) (by simp)) n
  have hlen := (hFb.read n)
  rw [readN_nbs] at hlen
  have hLk : ∀ {bx : Bx} {hp : List Seg}, LookOb Try.prog ⟨w, kys [(d, 112, dkV r bs (.map kk) (.slice pa pn pc))] [Seg.files 5 bs FS]⟩ bx (Seg.files 5 bs FS :: hp) 109 (.map (some bs)) (str n) false (.slice ao (bytesF FS n).length co) := fun {_ _} => by
    rw [← hval]
    exact LookOb.file Try.filesT Try.strT Try.zeroBytes (fun w' hw' => hw'.files (t := 5) (by simp))
  by_cases h3 : ((bytesF FS n).length : Int) ≤ m
  · refine At.run 100 true [false, false, false, true] [hB 0, hB 0, hL (.slice ao (bytesF FS n).length co)] rfl (by (repeat' apply And.intro) <;> first | exact hLk | exact True.intro | omega | rfl | (simp only [inK]; omega) | exact decide_eq_true (by omega) | exact decide_eq_false (by omega) | (simp; done) | (simp; omega) | (simp [Value.oneCell']; done) | exact i64s_one _ | exact AggOk.mk (by kernel_rfl) (by kernel_rfl)) ?_
    exact At.ret [] rfl Try.func42 rfl trivial (by rw [if_neg h1, if_neg h2, if_pos h3]; exact ⟨rfl, rfl, rfl⟩)
  refine At.run 100 true [false, false, false, false] [hB 0, hB 0, hL (.slice ao (bytesF FS n).length co)] rfl (by (repeat' apply And.intro) <;> first | exact hLk | exact True.intro | omega | rfl | (simp only [inK]; omega) | exact decide_eq_true (by omega) | exact decide_eq_false (by omega) | (simp; done) | (simp; omega) | (simp [Value.oneCell']; done) | exact i64s_one _ | exact AggOk.mk (by kernel_rfl) (by kernel_rfl)) ?_
  by_cases h0 : m = 0
  · refine At.run 100 true [true] [hB 0] rfl (by (repeat' apply And.intro) <;> first | exact True.intro | omega | (simp only [inK]; omega) | (simp; done) | (simp; omega) | exact decide_eq_true (by omega) | exact decide_eq_false (by omega) | rfl | (simp [Value.oneCell']; done) | exact i64s_one _ | exact AggOk.mk (by kernel_rfl) (by kernel_rfl)) ?_
    refine At.step0 [] rfl rfl rfl rfl trivial (OpOk.filesDel 0 rfl Try.filesT Try.strT rfl ?_)
    refine At.run 100 true [] [hB 0] rfl (by (repeat' apply And.intro) <;> first | exact True.intro | omega | (simp only [inK]; omega) | (simp; done) | (simp; omega) | exact decide_eq_true (by omega) | exact decide_eq_false (by omega) | rfl | (simp [Value.oneCell']; done) | exact i64s_one _ | exact AggOk.mk (by kernel_rfl) (by kernel_rfl)) ?_
    refine At.step [] rfl rfl rfl rfl rfl trivial (OpOk.call rfl (fun w' hw' => Try.copied_w bs (delF FS n) w' (hw'.files (by simp [setL])) (fun f hf => by have := hFb _ (mem_nbs (delF_sub.mem hf)); simp only at this; omega)) ?_)
    rintro v bx' hp' ⟨b2, F2, rfl, rfl, rfl, hp2⟩
    refine At.run 100 true [] [hB 0] rfl (by (repeat' apply And.intro) <;> first | exact True.intro | omega | (simp only [inK]; omega) | (simp; done) | (simp; omega) | exact decide_eq_true (by omega) | exact decide_eq_false (by omega) | rfl | (simp [Value.oneCell']; done) | exact i64s_one _ | exact AggOk.mk (by kernel_rfl) (by kernel_rfl)) ?_
    exact At.ret [] rfl Try.func42 rfl trivial (by rw [if_neg h1, if_neg h2, if_neg h3]; exact ⟨rfl, b2, F2, 0, 0, rfl, by rw [if_pos h0]; rfl, by rw [if_pos h0]; exact hp2⟩)
  · refine At.run 100 true [false] [] rfl (by (repeat' apply And.intro) <;> first | exact True.intro | omega | (simp only [inK]; omega) | (simp; done) | (simp; omega) | exact decide_eq_true (by omega) | exact decide_eq_false (by omega) | rfl | (simp [Value.oneCell']; done) | exact i64s_one _ | exact AggOk.mk (by kernel_rfl) (by kernel_rfl)) ?_
    have hco : (bytesF FS n).length ≤ co := FilesOk.capF (hown.files (t := 5) (b := bs) (F := FS) (by simp)) hval
    have hcl : (bytesF FS n).length ≤ 9223372036854775807 := by omega
    refine At.draw 10 rfl rfl rfl rfl ?_
    refine AtD.pures (ob := True) true (by kernel_rfl) [0, 1, 2, 4, 5, 6, 7] (fuel := 3) (by kernel_rfl) rfl (by (repeat' apply And.intro) <;> first | exact True.intro | omega | (simp only [inK]; omega) | (simp; done) | (simp; omega) | exact decide_eq_true (by omega) | exact decide_eq_false (by omega) | rfl | (simp [Value.oneCell']; done) | exact i64s_one _ | exact AggOk.mk (by kernel_rfl) (by kernel_rfl)) ?_
    have htl : ((bytesF FS n).take m.toNat).length = m.toNat := by rw [List.length_take]; omega
    have e45 : Value.slice ao m.toNat co = .slice ao ((bytesF FS n).take m.toNat).length co := by rw [htl]
    rw [e45]
    have hClone : ∀ {bx : Bx} {w' : World}, WOk ⟨w, kys [(d, 112, dkV r bs (.map kk) (.slice pa pn pc))] [Seg.files 5 bs FS]⟩ bx [Seg.files 5 bs FS] w' → _ := fun {_ w'} hw' =>
      Try.cloneB_w ((bytesF FS n).take m.toNat) ao co w' (by omega) (by omega) (by
        obtain ⟨a2, c2, hv2, hs2⟩ := FilesOk.slF (hw'.files (t := 5) (b := bs) (F := FS) (by simp)) n
        rw [hval] at hv2
        injection hv2 with e1 e2 e3
        subst e1
        have : u8s ((bytesF FS n).take m.toNat) = (u8s (bytesF FS n)).take m.toNat := List.map_take ..
        rw [this]
        exact SlOk.take hs2 _)
    refine AtD.cutS (ι := Nat × Nat) 1 #[true, true, true, true, true, true, true, true, true, false] (fun q => [(0, .pointer (some ⟨d, 0, none⟩)), (41, .map (some bs)), (42, str n), (46, sv (some q.1) ((bytesF FS n).take m.toNat).length q.2)]) (fun _ => [(d, 112, dkV r bs (.map kk) (.slice pa pn pc))]) (fun q => [Seg.row (some q.1) 5 1 ((bytesF FS n).take m.toNat).length q.2 (u8s ((bytesF FS n).take m.toNat)), Seg.files 5 bs FS]) ?_ (fun hd => ?_)
    · rintro ⟨g, c⟩
      refine AtD.fork1 9 (by kernel_rfl) (StepD.by0 [] rfl rfl rfl trivial (OpOk.filesPut ⟨n, (bytesF FS n).take m.toNat, g, c⟩ rfl rfl rfl rfl Try.filesT Try.strT ?_))
      refine AtD.done (by kernel_rfl) ?_
      refine At.run 100 true [] [hB 0] rfl (by (repeat' apply And.intro) <;> first | exact True.intro | omega | (simp only [inK]; omega) | (simp; done) | (simp; omega) | exact decide_eq_true (by omega) | exact decide_eq_false (by omega) | rfl | (simp [Value.oneCell']; done) | exact i64s_one _ | exact AggOk.mk (by kernel_rfl) (by kernel_rfl)) ?_
      refine At.step [] rfl rfl rfl rfl rfl trivial (OpOk.call rfl (fun w' hw' => Try.copied_w bs (putF FS ⟨n, (bytesF FS n).take m.toNat, g, c⟩) w' (hw'.files (by simp)) (fun f hf => ?_)) ?_)
      · rcases putF_mem hf with rfl | hf
        · simp only [htl]; omega
        · have := hFb _ (mem_nbs hf); simp only at this; omega
      rintro v bx' hp' ⟨b2, F2, rfl, rfl, rfl, hp2⟩
      refine At.run 100 true [] [hB 0] rfl (by (repeat' apply And.intro) <;> first | exact True.intro | omega | (simp only [inK]; omega) | (simp; done) | (simp; omega) | exact decide_eq_true (by omega) | exact decide_eq_false (by omega) | rfl | (simp [Value.oneCell']; done) | exact i64s_one _ | exact AggOk.mk (by kernel_rfl) (by kernel_rfl)) ?_
      exact At.ret [] rfl Try.func42 rfl trivial (by rw [if_neg h1, if_neg h2, if_neg h3]; exact ⟨rfl, b2, F2, g, c, rfl, by rw [if_neg h0]; rfl, by rw [if_neg h0]; exact hp2⟩)
    refine AtD.fork2 3 8 (by kernel_rfl) ?_ ?_
    · refine StepD.by [] rfl rfl rfl rfl trivial (OpOk.one true [] [hB 0] rfl (by (repeat' apply And.intro) <;> first | exact True.intro | omega | (simp only [inK]; omega) | (simp; done) | (simp; omega) | exact decide_eq_true (by omega) | exact decide_eq_false (by omega) | rfl | (simp [Value.oneCell']; done) | exact i64s_one _ | exact AggOk.mk (by kernel_rfl) (by kernel_rfl)) ?_)
      refine AtD.fork1 8 (by kernel_rfl) (StepD.by [] rfl rfl rfl rfl trivial (OpOk.call rfl (fun w' hw' => hClone hw') ?_))
      rintro v bx' hp' ⟨g, c, rfl, rfl, rfl⟩
      exact AtD.weak (hd (g, c)) ⟨rfl, rfl, rfl, rfl, trivial⟩
    · refine StepD.by [] rfl rfl rfl rfl trivial (OpOk.call rfl (fun w' hw' => hClone hw') ?_)
      rintro v bx' hp' ⟨g, c, rfl, rfl, rfl⟩
      refine AtD.fork1 3 (by kernel_rfl) (StepD.by [] rfl rfl rfl rfl trivial (OpOk.one true [] [hB 0] rfl (by (repeat' apply And.intro) <;> first | exact True.intro | omega | (simp only [inK]; omega) | (simp; done) | (simp; omega) | exact decide_eq_true (by omega) | exact decide_eq_false (by omega) | rfl | (simp [Value.oneCell']; done) | exact i64s_one _ | exact AggOk.mk (by kernel_rfl) (by kernel_rfl)) ?_))
      exact AtD.weak (hd (g, c)) ⟨rfl, rfl, rfl, rfl, trivial⟩

theorem Try.lSame_w (d r bs bk pn pc cS cK cP : Nat) (pa aS aK aP : Option Addr) (FS FK : List FileE) (w : World) (hb : w.heap[d]? = some (.cells (dkV r bs (.map (some bk)) (.slice pa pn pc)).toArray 112 (0, 0))) (hFS : FilesOk w 5 bs FS) (hFK : FilesOk w 5 bk FK)
    (hS : SlOk w aS (fl (ordN (nbs FS)))) (hK : SlOk w aK (fl (ordN (nbs FK)))) (hlS : FS.length ≤ 1000000) (hlK : FK.length ≤ 1000000) (hr : r ≤ 1048576) (hu : sumB (nbs FS) ≤ r) (hpn : pn ≤ 1000000) :
    Fun Try.prog 46 [.pointer (some ⟨d, 0, none⟩), .agg ⟨rdV (.slice aS (ordN (nbs FS)).length cS) (.slice aK (ordN (nbs FK)).length cK) (.slice aP pn cP) r⟩] w (.bool true) := by
  refine Tri.enter (bx := []) (hp := []) Try.func46 rfl (by kernel_rfl) rfl (Own.nil w) ?_
  have hdS : ((nbs FS).map (·.1)).Nodup := by have := hFS.names; rw [nbs, List.map_map]; exact this
  have hdK : ((nbs FK).map (·.1)).Nodup := by have := hFK.names; rw [nbs, List.map_map]; exact this
  have hoS : (ordN (nbs FS)).length = FS.length := by rw [ordN_len hdS, nbs_len]
  have hoK : (ordN (nbs FK)).length = FK.length := by rw [ordN_len hdK, nbs_len]
  have hus : sumB (ordN (nbs FS)) = sumB (nbs FS) := sum_ord hdS
  have huF : usedF FS = sumB (nbs FS) := usedF_nbs FS
  have hdl := (Array.getElem?_eq_some_iff.1 hb).1
  have hbw : ∀ {bx : Bx} {hp : List Seg} {w' : World}, WOk ⟨w, kys [] []⟩ bx hp w' → w'.heap[d]? = some (.cells (dkV r bs (.map (some bk)) (.slice pa pn pc)).toArray 112 (0, 0)) := fun {_ _ w'} hw' => by rw [hw'.ext.block d hdl (by simp [kys])]; exact hb
  have hU0 : ∀ {bx : Bx} {hp : List Seg}, CallOb Try.prog ⟨w, kys [] []⟩ bx hp 39 [.slice aS (ordN (nbs FS)).length cS] (.int .i64 (sumB (nbs FS))) := fun {_ _} w' hw' => by
    rw [← hus]; exact Try.rUsed_w (ordN (nbs FS)) aS cS w' (by omega) (hS.ext hw'.ext (by simp [kys])) (by omega)
  have hS1 : ∀ {bx : Bx} {hp : List Seg} {a5 : Option Nat} {c5 : Nat}, CallOb Try.prog ⟨w, kys [] []⟩ bx (Seg.row a5 56 2 FS.length c5 (fl (ordN (nbs FS))) :: hp) 27 [sv a5 FS.length c5, .slice aS (ordN (nbs FS)).length cS] (.bool true) := fun {_ _ a5 c5} w' hw' => by
    have := Try.rSame9_w (ordN (nbs FS)) (ordN (nbs FS)) (svA a5) aS c5 cS w' (by omega) (by omega) (by have := SlOk.row (hw'.hp (Seg.row a5 56 2 FS.length c5 (fl (ordN (nbs FS)))) (by simp)); exact this) (hS.ext hw'.ext (by simp [kys]))
    rw [decide_eq_true rfl] at this
    rw [show sv a5 FS.length c5 = .slice (svA a5) (ordN (nbs FS)).length c5 by rw [hoS]; rfl]
    exact this
  have hS2 : ∀ {bx : Bx} {hp : List Seg} {a6 : Option Nat} {c6 : Nat}, CallOb Try.prog ⟨w, kys [] []⟩ bx (Seg.row a6 56 2 FK.length c6 (fl (ordN (nbs FK))) :: hp) 27 [sv a6 FK.length c6, .slice aK (ordN (nbs FK)).length cK] (.bool true) := fun {_ _ a6 c6} w' hw' => by
    have := Try.rSame9_w (ordN (nbs FK)) (ordN (nbs FK)) (svA a6) aK c6 cK w' (by omega) (by omega) (by have := SlOk.row (hw'.hp (Seg.row a6 56 2 FK.length c6 (fl (ordN (nbs FK)))) (by simp)); exact this) (hK.ext hw'.ext (by simp [kys]))
    rw [decide_eq_true rfl] at this
    rw [show sv a6 FK.length c6 = .slice (svA a6) (ordN (nbs FK)).length c6 by rw [hoK]; rfl]
    exact this
  have hPd : ∀ {bx : Bx} {hp : List Seg}, CallOb Try.prog ⟨w, kys [] []⟩ bx hp 26 [.pointer (some ⟨d, 0, none⟩)] (.int .i64 pn) := fun {_ _} w' hw' => Try.Pending_w d r bs (.map (some bk)) pa pn pc w' (hbw hw')
  have hUs : ∀ {bx : Bx} {hp : List Seg}, CallOb Try.prog ⟨w, kys [] []⟩ bx hp 48 [.pointer (some ⟨d, 0, none⟩)] (.int .i64 (sumB (nbs FS))) := fun {_ _} w' hw' => by
    rw [← huF]; exact Try.Used_w d r bs (.map (some bk)) (.slice pa pn pc) FS w' (hbw hw') (hFS.ext hw'.ext (by simp [kys])) (by omega)
  have hRm : ∀ {bx : Bx} {hp : List Seg}, CallOb Try.prog ⟨w, kys [] []⟩ bx hp 49 [.pointer (some ⟨d, 0, none⟩)] (.int .i64 ((r : Int) - (sumB (nbs FS) : Int))) := fun {_ _} w' hw' => by
    rw [← huF]; exact Try.Room_w d r bs (.map (some bk)) (.slice pa pn pc) FS w' (hbw hw') (hFS.ext hw'.ext (by simp [kys])) (by omega) (by omega)
  refine At.run 100 true [] [] rfl trivial ?_
  refine At.step [] rfl rfl rfl rfl rfl trivial (OpOk.box rfl rfl rfl fun b3 hb3 => ?_)
  refine At.run 100 true [] [hB 0, hC (.int .i64 (sumB (nbs FS)))] rfl (by (repeat' apply And.intro) <;> first | exact hU0 | exact True.intro | omega | rfl | (simp only [inK]; omega) | exact decide_eq_true (by omega) | exact decide_eq_false (by omega) | (simp; done) | (simp; omega) | (simp [Value.oneCell']; done) | exact i64s_one _ | exact AggOk.mk (by kernel_rfl) (by kernel_rfl)) ?_
  refine At.draw 36 rfl rfl rfl rfl ?_
  refine AtD.cutS (ι := Option Nat × Nat × Option Nat × Nat) 25 #[true, true, true, true, true, true, true, true, true, true, true, false, false, false, false, false, false, false, false, false, false, false, false, false, false, false, false, false, false, false, false, false, false, false, false, false] (fun q => [(9, .pointer (some ⟨d, 0, none⟩)), (10, sv q.1 FS.length q.2.1), (11, .pointer (some ⟨b3, 0, none⟩)), (12, .slice aS (ordN (nbs FS)).length cS), (13, .bool true), (14, .bool true), (15, .pointer (some ⟨d, 0, none⟩)), (16, sv q.2.2.1 FK.length q.2.2.2), (17, .pointer (some ⟨b3, 1, none⟩)), (18, .slice aK (ordN (nbs FK)).length cK), (19, .bool true), (0, .pointer (some ⟨d, 0, none⟩)), (3, .pointer (some ⟨b3, 0, none⟩)), (5, .int .i64 (sumB (nbs FS)))]) (fun q => [(b3, 76, rdV (.slice aS (ordN (nbs FS)).length cS) (.slice aK (ordN (nbs FK)).length cK) (.slice aP pn cP) r)]) (fun q => [Seg.row q.2.2.1 56 2 FK.length q.2.2.2 (fl (ordN (nbs FK))), Seg.row q.1 56 2 FS.length q.2.1 (fl (ordN (nbs FS)))]) ?_ (fun hd6 => ?_)
  · rintro ⟨a5, c5, a6, c6⟩
    refine AtD.lex 11 25 0 true [true, true, true, true] [hC (.int .i64 pn), hB 0, hC (.int .i64 (sumB (nbs FS))), hC (.int .i64 ((r : Int) - (sumB (nbs FS) : Int))), hB 0] ⟨by kernel_rfl, by kernel_rfl, by kernel_rfl, rfl, by kernel_rfl, by kernel_rfl⟩ rfl rfl rfl (by (repeat' apply And.intro) <;> first | exact hPd | exact hUs | exact hRm | exact True.intro | omega | rfl | (simp only [inK]; omega) | exact decide_eq_true (by omega) | exact decide_eq_false (by omega) | (simp; done) | (simp; omega) | (simp [Value.oneCell']; done) | exact i64s_one _ | exact AggOk.mk (by kernel_rfl) (by kernel_rfl)) (fun _ => by kernel_rfl) ?_
    refine AtD.done (by kernel_rfl) ?_
    refine At.run 100 true [] [] rfl (by (repeat' apply And.intro) <;> first | exact True.intro | omega | (simp only [inK]; omega) | (simp; done) | (simp; omega) | exact decide_eq_true (by omega) | exact decide_eq_false (by omega) | rfl | (simp [Value.oneCell']; done) | exact i64s_one _ | exact AggOk.mk (by kernel_rfl) (by kernel_rfl)) ?_
    exact At.retK [] [] [] rfl rfl Try.func46 rfl (by (repeat' apply And.intro) <;> first | exact True.intro | omega | (simp only [inK]; omega) | (simp; done) | (simp; omega) | exact decide_eq_true (by omega) | exact decide_eq_false (by omega) | rfl | (simp [Value.oneCell']; done) | exact i64s_one _ | exact AggOk.mk (by kernel_rfl) (by kernel_rfl)) ⟨by simp [tupV], rfl, rfl⟩
  refine AtD.cutS (ι := Option Nat × Nat × Option Nat × Nat) 26 #[true, true, true, true, true, true, true, true, true, true, false, false, false, false, false, false, false, false, false, false, false, false, false, false, false, false, false, false, false, false, false, false, false, false, false, false] (fun q => [(9, .pointer (some ⟨d, 0, none⟩)), (10, sv q.1 FS.length q.2.1), (11, .pointer (some ⟨b3, 0, none⟩)), (12, .slice aS (ordN (nbs FS)).length cS), (13, .bool true), (14, .bool true), (15, .pointer (some ⟨d, 0, none⟩)), (16, sv q.2.2.1 FK.length q.2.2.2), (17, .pointer (some ⟨b3, 1, none⟩)), (18, .slice aK (ordN (nbs FK)).length cK), (0, .pointer (some ⟨d, 0, none⟩)), (3, .pointer (some ⟨b3, 0, none⟩)), (5, .int .i64 (sumB (nbs FS)))]) (fun q => [(b3, 76, rdV (.slice aS (ordN (nbs FS)).length cS) (.slice aK (ordN (nbs FK)).length cK) (.slice aP pn cP) r)]) (fun q => [Seg.row q.2.2.1 56 2 FK.length q.2.2.2 (fl (ordN (nbs FK))), Seg.row q.1 56 2 FS.length q.2.1 (fl (ordN (nbs FS)))]) ?_ (fun hd5 => ?_)
  · rintro ⟨a5, c5, a6, c6⟩
    refine AtD.fork1 10 (by kernel_rfl) ?_
    refine StepD.by [true] rfl rfl rfl rfl rfl (OpOk.one true [] [hC (.bool true)] rfl (by (repeat' apply And.intro) <;> first | exact hS2 | exact True.intro | omega | rfl | (simp only [inK]; omega) | exact decide_eq_true (by omega) | exact decide_eq_false (by omega) | (simp; done) | (simp; omega) | (simp [Value.oneCell']; done) | exact i64s_one _ | exact AggOk.mk (by kernel_rfl) (by kernel_rfl)) ?_)
    exact AtD.weak (hd6 (a5, c5, a6, c6)) ⟨rfl, rfl, rfl, rfl, rfl, rfl, rfl, rfl, rfl, rfl, rfl, rfl, rfl, rfl, trivial⟩
  refine AtD.cutS (ι := Option Nat × Nat × Option Nat × Nat) 27 #[true, true, true, true, true, true, true, true, true, false, false, false, false, false, false, false, false, false, false, false, false, false, false, false, false, false, false, false, false, false, false, false, false, false, false, false] (fun q => [(9, .pointer (some ⟨d, 0, none⟩)), (10, sv q.1 FS.length q.2.1), (11, .pointer (some ⟨b3, 0, none⟩)), (12, .slice aS (ordN (nbs FS)).length cS), (13, .bool true), (14, .bool true), (15, .pointer (some ⟨d, 0, none⟩)), (16, sv q.2.2.1 FK.length q.2.2.2), (17, .pointer (some ⟨b3, 1, none⟩)), (0, .pointer (some ⟨d, 0, none⟩)), (3, .pointer (some ⟨b3, 0, none⟩)), (5, .int .i64 (sumB (nbs FS)))]) (fun q => [(b3, 76, rdV (.slice aS (ordN (nbs FS)).length cS) (.slice aK (ordN (nbs FK)).length cK) (.slice aP pn cP) r)]) (fun q => [Seg.row q.2.2.1 56 2 FK.length q.2.2.2 (fl (ordN (nbs FK))), Seg.row q.1 56 2 FS.length q.2.1 (fl (ordN (nbs FS)))]) ?_ (fun hd4 => ?_)
  · rintro ⟨a5, c5, a6, c6⟩
    refine AtD.fork1 9 (by kernel_rfl) ?_
    refine StepD.by [true] rfl rfl rfl rfl rfl (OpOk.one true [] [hB 0] rfl (by (repeat' apply And.intro) <;> first | exact True.intro | omega | (simp only [inK]; omega) | (simp; done) | (simp; omega) | exact decide_eq_true (by omega) | exact decide_eq_false (by omega) | rfl | (simp [Value.oneCell']; done) | exact i64s_one _ | exact AggOk.mk (by kernel_rfl) (by kernel_rfl)) ?_)
    exact AtD.weak (hd5 (a5, c5, a6, c6)) ⟨rfl, rfl, rfl, rfl, rfl, rfl, rfl, rfl, rfl, rfl, rfl, rfl, rfl, trivial⟩
  refine AtD.cutS (ι := Option Nat × Nat) 27 #[true, true, true, true, true, true, true, false, true, true, false, false, false, false, false, false, false, false, false, false, false, false, false, false, false, false, false, false, false, false, false, false, false, false, false, false] (fun q => [(9, .pointer (some ⟨d, 0, none⟩)), (10, sv q.1 FS.length q.2), (11, .pointer (some ⟨b3, 0, none⟩)), (12, .slice aS (ordN (nbs FS)).length cS), (13, .bool true), (14, .bool true), (15, .pointer (some ⟨d, 0, none⟩)), (17, .pointer (some ⟨b3, 1, none⟩)), (18, .slice aK (ordN (nbs FK)).length cK), (0, .pointer (some ⟨d, 0, none⟩)), (3, .pointer (some ⟨b3, 0, none⟩)), (5, .int .i64 (sumB (nbs FS)))]) (fun q => [(b3, 76, rdV (.slice aS (ordN (nbs FS)).length cS) (.slice aK (ordN (nbs FK)).length cK) (.slice aP pn cP) r)]) (fun q => [Seg.row q.1 56 2 FS.length q.2 (fl (ordN (nbs FS)))]) ?_ (fun hd7 => ?_)
  · rintro ⟨a5, c5⟩
    refine AtD.fork1 7 (by kernel_rfl) ?_
    refine StepD.by [true] rfl rfl rfl rfl rfl (OpOk.call rfl (fun w' hw' => Try.DKept_w d r bs bk (.slice pa pn pc) FK w' (hbw hw') (hFK.ext hw'.ext (by simp [kys])) hlK) ?_)
    rintro v bx' hp' ⟨a6, c6, rfl, rfl, rfl⟩
    exact AtD.weak (hd5 (a5, c5, a6, c6)) ⟨rfl, rfl, rfl, rfl, rfl, rfl, rfl, rfl, rfl, rfl, rfl, rfl, rfl, trivial⟩
  refine AtD.cutS (ι := Option Nat × Nat) 28 #[true, true, true, true, true, true, true, false, true, false, false, false, false, false, false, false, false, false, false, false, false, false, false, false, false, false, false, false, false, false, false, false, false, false, false, false] (fun q => [(9, .pointer (some ⟨d, 0, none⟩)), (10, sv q.1 FS.length q.2), (11, .pointer (some ⟨b3, 0, none⟩)), (12, .slice aS (ordN (nbs FS)).length cS), (13, .bool true), (14, .bool true), (15, .pointer (some ⟨d, 0, none⟩)), (17, .pointer (some ⟨b3, 1, none⟩)), (0, .pointer (some ⟨d, 0, none⟩)), (3, .pointer (some ⟨b3, 0, none⟩)), (5, .int .i64 (sumB (nbs FS)))]) (fun q => [(b3, 76, rdV (.slice aS (ordN (nbs FS)).length cS) (.slice aK (ordN (nbs FK)).length cK) (.slice aP pn cP) r)]) (fun q => [Seg.row q.1 56 2 FS.length q.2 (fl (ordN (nbs FS)))]) ?_ (fun hd3 => ?_)
  · rintro ⟨a5, c5⟩
    refine AtD.fork2 7 9 (by kernel_rfl) ?_ ?_
    · refine StepD.by [true] rfl rfl rfl rfl rfl (OpOk.call rfl (fun w' hw' => Try.DKept_w d r bs bk (.slice pa pn pc) FK w' (hbw hw') (hFK.ext hw'.ext (by simp [kys])) hlK) ?_)
      rintro v bx' hp' ⟨a6, c6, rfl, rfl, rfl⟩
      exact AtD.weak (hd4 (a5, c5, a6, c6)) ⟨rfl, rfl, rfl, rfl, rfl, rfl, rfl, rfl, rfl, rfl, rfl, rfl, trivial⟩
    · refine StepD.by [true] rfl rfl rfl rfl rfl (OpOk.one true [] [hB 0] rfl (by (repeat' apply And.intro) <;> first | exact True.intro | omega | (simp only [inK]; omega) | (simp; done) | (simp; omega) | exact decide_eq_true (by omega) | exact decide_eq_false (by omega) | rfl | (simp [Value.oneCell']; done) | exact i64s_one _ | exact AggOk.mk (by kernel_rfl) (by kernel_rfl)) ?_)
      exact AtD.weak (hd7 (a5, c5)) ⟨rfl, rfl, rfl, rfl, rfl, rfl, rfl, rfl, rfl, rfl, rfl, rfl, trivial⟩
  refine AtD.cutS (ι := Option Nat × Nat) 32 #[true, true, true, true, false, false, false, false, false, false, false, false, false, false, false, false, false, false, false, false, false, false, false, false, false, false, false, false, false, false, false, false, false, false, false, false] (fun q => [(9, .pointer (some ⟨d, 0, none⟩)), (10, sv q.1 FS.length q.2), (11, .pointer (some ⟨b3, 0, none⟩)), (12, .slice aS (ordN (nbs FS)).length cS), (0, .pointer (some ⟨d, 0, none⟩)), (3, .pointer (some ⟨b3, 0, none⟩)), (5, .int .i64 (sumB (nbs FS)))]) (fun q => [(b3, 76, rdV (.slice aS (ordN (nbs FS)).length cS) (.slice aK (ordN (nbs FK)).length cK) (.slice aP pn cP) r)]) (fun q => [Seg.row q.1 56 2 FS.length q.2 (fl (ordN (nbs FS)))]) ?_ (fun hd2 => ?_)
  · rintro ⟨a5, c5⟩
    refine AtD.fork1 4 (by kernel_rfl) ?_
    refine StepD.by [] rfl rfl rfl rfl trivial (OpOk.one true [] [hC (.bool true)] rfl (by (repeat' apply And.intro) <;> first | exact hS1 | exact True.intro | omega | rfl | (simp only [inK]; omega) | exact decide_eq_true (by omega) | exact decide_eq_false (by omega) | (simp; done) | (simp; omega) | (simp [Value.oneCell']; done) | exact i64s_one _ | exact AggOk.mk (by kernel_rfl) (by kernel_rfl)) ?_)
    refine AtD.pures (ob := True) true (by kernel_rfl) [5] (fuel := 30) (by kernel_rfl) rfl (by (repeat' apply And.intro) <;> first | exact True.intro | omega | (simp only [inK]; omega) | (simp; done) | (simp; omega) | exact decide_eq_true (by omega) | exact decide_eq_false (by omega) | rfl | (simp [Value.oneCell']; done) | exact i64s_one _ | exact AggOk.mk (by kernel_rfl) (by kernel_rfl)) ?_
    refine AtD.pureG (fuel := 29) (i := 6) true [true] (by kernel_rfl) (by kernel_rfl) rfl rfl rfl rfl (by (repeat' apply And.intro) <;> first | exact True.intro | omega | (simp only [inK]; omega) | (simp; done) | (simp; omega) | exact decide_eq_true (by omega) | exact decide_eq_false (by omega) | rfl | (simp [Value.oneCell']; done) | exact i64s_one _ | exact AggOk.mk (by kernel_rfl) (by kernel_rfl)) rfl (by (repeat' apply And.intro) <;> first | exact True.intro | omega | (simp only [inK]; omega) | (simp; done) | (simp; omega) | exact decide_eq_true (by omega) | exact decide_eq_false (by omega) | rfl | (simp [Value.oneCell']; done) | exact i64s_one _ | exact AggOk.mk (by kernel_rfl) (by kernel_rfl)) ?_
    refine AtD.pureG (fuel := 28) (i := 8) true [true] (by kernel_rfl) (by kernel_rfl) rfl rfl rfl rfl (by (repeat' apply And.intro) <;> first | exact True.intro | omega | (simp only [inK]; omega) | (simp; done) | (simp; omega) | exact decide_eq_true (by omega) | exact decide_eq_false (by omega) | rfl | (simp [Value.oneCell']; done) | exact i64s_one _ | exact AggOk.mk (by kernel_rfl) (by kernel_rfl)) rfl (by (repeat' apply And.intro) <;> first | exact True.intro | omega | (simp only [inK]; omega) | (simp; done) | (simp; omega) | exact decide_eq_true (by omega) | exact decide_eq_false (by omega) | rfl | (simp [Value.oneCell']; done) | exact i64s_one _ | exact AggOk.mk (by kernel_rfl) (by kernel_rfl)) ?_
    exact AtD.weak (hd3 (a5, c5)) ⟨rfl, rfl, rfl, rfl, rfl, rfl, rfl, rfl, rfl, rfl, rfl, trivial⟩
  refine AtD.cutS (ι := Option Nat × Nat) 33 #[true, true, true, false, false, false, false, false, false, false, false, false, false, false, false, false, false, false, false, false, false, false, false, false, false, false, false, false, false, false, false, false, false, false, false, false] (fun q => [(9, .pointer (some ⟨d, 0, none⟩)), (10, sv q.1 FS.length q.2), (11, .pointer (some ⟨b3, 0, none⟩)), (0, .pointer (some ⟨d, 0, none⟩)), (3, .pointer (some ⟨b3, 0, none⟩)), (5, .int .i64 (sumB (nbs FS)))]) (fun q => [(b3, 76, rdV (.slice aS (ordN (nbs FS)).length cS) (.slice aK (ordN (nbs FK)).length cK) (.slice aP pn cP) r)]) (fun q => [Seg.row q.1 56 2 FS.length q.2 (fl (ordN (nbs FS)))]) ?_ (fun hd1 => ?_)
  · rintro ⟨a5, c5⟩
    refine AtD.fork1 3 (by kernel_rfl) ?_
    refine StepD.by [] rfl rfl rfl rfl trivial (OpOk.one true [] [hB 0] rfl (by (repeat' apply And.intro) <;> first | exact True.intro | omega | (simp only [inK]; omega) | (simp; done) | (simp; omega) | exact decide_eq_true (by omega) | exact decide_eq_false (by omega) | rfl | (simp [Value.oneCell']; done) | exact i64s_one _ | exact AggOk.mk (by kernel_rfl) (by kernel_rfl)) ?_)
    exact AtD.weak (hd2 (a5, c5)) ⟨rfl, rfl, rfl, rfl, rfl, rfl, rfl, trivial⟩
  refine AtD.cutS (ι := Unit) 33 #[true, false, true, true, false, false, false, false, false, false, false, false, false, false, false, false, false, false, false, false, false, false, false, false, false, false, false, false, false, false, false, false, false, false, false, false] (fun _ => [(9, .pointer (some ⟨d, 0, none⟩)), (11, .pointer (some ⟨b3, 0, none⟩)), (12, .slice aS (ordN (nbs FS)).length cS), (0, .pointer (some ⟨d, 0, none⟩)), (3, .pointer (some ⟨b3, 0, none⟩)), (5, .int .i64 (sumB (nbs FS)))]) (fun _ => [(b3, 76, rdV (.slice aS (ordN (nbs FS)).length cS) (.slice aK (ordN (nbs FK)).length cK) (.slice aP pn cP) r)]) (fun _ => []) ?_ (fun hd8 => ?_)
  · rintro ⟨⟩
    refine AtD.fork1 1 (by kernel_rfl) ?_
    refine StepD.by [] rfl rfl rfl rfl trivial (OpOk.call rfl (fun w' hw' => Try.DFiles_w d r bs bk (.slice pa pn pc) FS w' (hbw hw') (hFS.ext hw'.ext (by simp [kys])) hlS) ?_)
    rintro v bx' hp' ⟨a5, c5, rfl, rfl, rfl⟩
    exact AtD.weak (hd2 (a5, c5)) ⟨rfl, rfl, rfl, rfl, rfl, rfl, rfl, trivial⟩
  refine AtD.cutS (ι := Unit) 34 #[true, false, true, false, false, false, false, false, false, false, false, false, false, false, false, false, false, false, false, false, false, false, false, false, false, false, false, false, false, false, false, false, false, false, false, false] (fun _ => [(9, .pointer (some ⟨d, 0, none⟩)), (11, .pointer (some ⟨b3, 0, none⟩)), (0, .pointer (some ⟨d, 0, none⟩)), (3, .pointer (some ⟨b3, 0, none⟩)), (5, .int .i64 (sumB (nbs FS)))]) (fun _ => [(b3, 76, rdV (.slice aS (ordN (nbs FS)).length cS) (.slice aK (ordN (nbs FK)).length cK) (.slice aP pn cP) r)]) (fun _ => []) ?_ (fun hd0 => ?_)
  · rintro ⟨⟩
    refine AtD.fork2 1 3 (by kernel_rfl) ?_ ?_
    · refine StepD.by [] rfl rfl rfl rfl trivial (OpOk.call rfl (fun w' hw' => Try.DFiles_w d r bs bk (.slice pa pn pc) FS w' (hbw hw') (hFS.ext hw'.ext (by simp [kys])) hlS) ?_)
      rintro v bx' hp' ⟨a5, c5, rfl, rfl, rfl⟩
      exact AtD.weak (hd1 (a5, c5)) ⟨rfl, rfl, rfl, rfl, rfl, rfl, trivial⟩
    · refine StepD.by [] rfl rfl rfl rfl trivial (OpOk.one true [] [hB 0] rfl (by (repeat' apply And.intro) <;> first | exact True.intro | omega | (simp only [inK]; omega) | (simp; done) | (simp; omega) | exact decide_eq_true (by omega) | exact decide_eq_false (by omega) | rfl | (simp [Value.oneCell']; done) | exact i64s_one _ | exact AggOk.mk (by kernel_rfl) (by kernel_rfl)) ?_)
      exact AtD.weak (hd8 ()) ⟨rfl, rfl, rfl, rfl, rfl, rfl, trivial⟩
  refine AtD.pures (ob := True) true (by kernel_rfl) [0, 2] (fuel := 34) (by kernel_rfl) rfl (by (repeat' apply And.intro) <;> first | exact True.intro | omega | (simp only [inK]; omega) | (simp; done) | (simp; omega) | exact decide_eq_true (by omega) | exact decide_eq_false (by omega) | rfl | (simp [Value.oneCell']; done) | exact i64s_one _ | exact AggOk.mk (by kernel_rfl) (by kernel_rfl)) ?_
  exact AtD.weak (hd0 ()) ⟨rfl, rfl, rfl, rfl, rfl, trivial⟩

end Go.Proofs

/-
  Walks of layer 9: whatever is done with a disk.
-/
namespace Go.Proofs
open Go Go.Eng
set_option maxRecDepth 100000
set_option maxHeartbeats 4000000
attribute [local irreducible] Tri

theorem ord_perm {S R : FL} (hR : (R.map (·.1)).Nodup) (hp : S.Perm R) : ordN S = ordN R := ordN_of_perm (ordN_ris hR) (hp.trans (ordN_perm hR).symm)

/-- How a disk and the document's disk stand. -/
structure PlSt (S0 : Base) (r i : Nat) where
  FS : List FileE
  FK : List FileE
  W : List PendE
  a1 : Option Nat
  pc : Nat
  bs : Nat
  bk : Nat
  aS : Option Addr
  aK : Option Addr
  aP : Option Addr
  cS : Nat
  cK : Nat
  cP : Nat
  ex : List Seg
  inv : PInv r i FS FK W
  fS : Fz S0 ex aS (fl (ordN (nbs FS)))
  fK : Fz S0 ex aK (fl (ordN (nbs FK)))
  fP : Fz S0 ex aP ((W.map PendE.wn).flatMap wrL)
def PlSt.x {S0 : Base} {r i : Nat} (q : PlSt S0 r i) : List Value := rdV (.slice q.aS (ordN (nbs q.FS)).length q.cS) (.slice q.aK (ordN (nbs q.FK)).length q.cK) (.slice q.aP q.W.length q.cP) r
def PlSt.dk {S0 : Base} {r i : Nat} (q : PlSt S0 r i) : List Value := dkV r q.bs (.map (some q.bk)) (sv q.a1 q.W.length q.pc)
def Try.plHp {S0 : Base} {r i : Nat} (q : PlSt S0 r i) : List Seg := [Seg.files 5 q.bs q.FS, Seg.row q.a1 119 2 q.W.length q.pc (q.W.flatMap Try.wrC), Try.boxesS q.W, Seg.files 5 q.bk q.FK, Seg.pack [] q.ex]

end Go.Proofs

/-
  Walks of layer 9: whatever is done with a disk: Sync.
-/
namespace Go.Proofs
open Go Go.Eng
set_option maxRecDepth 100000
set_option maxHeartbeats 4000000
attribute [local irreducible] Tri

theorem Try.plSync_w {a lb : Option Addr} {ns ca nl lc r i d b9 b11 : Nat} {e : ActE} {w : World} {FS FK : List FileE} {W : List PendE} {a1 : Option Nat} {pc bs bk : Nat} {aS aK aP : Option Addr} {cS cK cP : Nat} {ex : List Seg} (inv : PInv r i FS FK W) (fS : Fz ⟨w, kys [] []⟩ ex aS (fl (ordN (nbs FS)))) (fK : Fz ⟨w, kys [] []⟩ ex aK (fl (ordN (nbs FK)))) (fP : Fz ⟨w, kys [] []⟩ ex aP ((W.map PendE.wn).flatMap wrL))
    (hek : ActOk w e) (hs3 : ¬ 300 < e.s.length) (hn1 : ¬ 100 < e.name.length) (hk1 : ¬ 100 < e.keep.length) (hi30 : i < 30) (hz : ∀ q : PlSt ⟨w, kys [] []⟩ r (i + 1) × Int, At (triCtx Try.prog 8 Try.f8 w (kys [] []) (fun v bx hp => v = .bool true ∧ bx = [] ∧ hp = [])) ⟨0, [0, 1, 1, 1, 1, 0, 0, 1, 0, 0, 1, 0, 1, 1, 1, 1, 1, 1, 1, 1, 1], []⟩ [] ([(0, .slice a ns ca), (1, .int .i64 r), (2, .slice lb nl lc), (7, .pointer (some ⟨d, 0, none⟩)), (9, .pointer (some ⟨b9, 0, none⟩)), (10, .int .i64 i), (11, .pointer (some ⟨b11, 0, none⟩)), (12, .int .i64 q.2), (13, .int .i64 q.2)]) [(b11, 46, acC e), (b9, 76, q.1.x), (d, 112, q.1.dk)] (Try.plHp q.1) ⟨w, kys [] []⟩) (hk4 : e.k % 7 = 4) :
    At (triCtx Try.prog 8 Try.f8 w (kys [] []) (fun v bx hp => v = .bool true ∧ bx = [] ∧ hp = [])) ⟨0, [1, 0, 1, 0, 1, 1, 1, 0, 0, 1, 0, 0, 1, 0, 1, 1, 1, 1, 1, 1, 1, 1, 1], []⟩ [] ([(120, .bool (decide (e.k % 7 = 4))), (99, .int .u8 (e.k % 7)), (13, .int .i64 0), (12, .int .i64 0), (11, .pointer (some ⟨b11, 0, none⟩)), (0, .slice a ns ca), (1, .int .i64 r), (2, .slice lb nl lc), (7, .pointer (some ⟨d, 0, none⟩)), (9, .pointer (some ⟨b9, 0, none⟩)), (10, .int .i64 i)]) [(b11, 46, acC e), (b9, 76, rdV (.slice aS (ordN (nbs FS)).length cS) (.slice aK (ordN (nbs FK)).length cK) (.slice aP W.length cP) r), (d, 112, dkV r bs (.map (some bk)) (sv a1 W.length pc))] [Seg.files 5 bs FS, Seg.row a1 119 2 W.length pc (W.flatMap Try.wrC), Try.boxesS W, Seg.files 5 bk FK, Seg.pack [] ex] ⟨w, kys [] []⟩ := by
  have hen := hek.n
  have hekl := hek.kl
  have hek0 := hek.k
  have hrd : readN (ordN (nbs FS)) e.name = bytesF FS e.name := by rw [read_ord inv.dS, readN_nbs]
  have hlS : (ordN (nbs FS)).length ≤ 1000000 := by rw [ordN_len inv.dS, nbs_len]; have := inv.lS; omega
  have hlK : (ordN (nbs FK)).length ≤ 960 := by rw [ordN_len inv.dK, nbs_len]; have := inv.lK; omega
  have hWn := inv.wn
  have hbl : (bytesF FS e.name).length ≤ 1048576 := by rw [← readN_nbs]; exact inv.fs.read _
  refine At.run 100 true [true] [hB 0] rfl (by (repeat' apply And.intro) <;> first | exact True.intro | omega | (simp only [inK]; omega) | (simp; done) | (simp; omega) | exact decide_eq_true (by omega) | exact decide_eq_false (by omega) | rfl | (simp [Value.oneCell']; done) | exact i64s_one _ | exact AggOk.mk (by kernel_rfl) (by kernel_rfl)) ?_
  refine At.step [] rfl rfl rfl rfl rfl trivial (OpOk.callO [false, false, true] [true] rfl rfl (fun w' _ ho => Try.DSync_w d r bs (some bk) (svA a1) W.length pc FS w' ho inv.fs) ?_)
  rintro v bx' hp' ⟨rfl, b2, F2, rfl, rfl, hp2⟩
  have hSy : ∀ {bx : Bx} {hp : List Seg}, CallOb Try.prog ⟨w, kys [] []⟩ bx hp 41 [.agg ⟨rdV (.slice aS (ordN (nbs FS)).length cS) (.slice aK (ordN (nbs FK)).length cK) (.slice aP W.length cP) r⟩] (.agg ⟨rdV (.slice aS (ordN (nbs FS)).length cS) (.slice aS (ordN (nbs FS)).length cS) (.slice none 0 0) r⟩) := fun {_ _} w' _ => Try.rSync_w _ _ _ _ _ _ _ _ _ _ w'
  refine At.run 100 true [] [hB 2, hC (.agg ⟨rdV (.slice aS (ordN (nbs FS)).length cS) (.slice aS (ordN (nbs FS)).length cS) (.slice none 0 0) r⟩), hB 2] rfl (by (repeat' apply And.intro) <;> first | exact hSy | exact one_of rfl | exact True.intro | omega | rfl | (simp only [inK]; omega) | exact decide_eq_true (by omega) | exact decide_eq_false (by omega) | (simp; done) | (simp; omega) | (simp [Value.oneCell']; done) | exact i64s_one _ | exact AggOk.mk (by kernel_rfl) (by kernel_rfl)) ?_
  refine At.keep [true, true, true] [true, true, false, false, false, true] rfl ?_
  refine At.nilRow 119 2 ?_
  refine At.reshape (fun w' hw' => WOk.nilBoxes hw') ?_
  refine At.order (br := [(b11, 46, acC e), (b9, 76, rdV (.slice aS (ordN (nbs FS)).length cS) (.slice aS (ordN (nbs FS)).length cS) (.slice none 0 0) r), (d, 112, dkV r bs (.map (some b2)) (.slice none 0 0))]) (hr := [Seg.files 5 bs FS, Seg.row none 119 2 0 0 [], Try.boxesS [], Seg.files 5 b2 (F2), Seg.pack [] ex]) [0, 2, 2] [2, 1, 2, 3] rfl rfl ?_
  have hperm := ord_perm inv.dS hp2
  have hz1 := hz (⟨FS, F2, [], none, 0, bs, b2, aS, aS, none, cS, cS, 0, ex, inv.sync hp2, fS, by rw [hperm]; exact fS, Fz.nil⟩, 0)
  dsimp only [PlSt.x, PlSt.dk, Try.plHp] at hz1
  rw [hperm] at hz1
  exact At.weak hz1 ⟨rfl, rfl, rfl, rfl, rfl, rfl, rfl, rfl, rfl, trivial⟩

end Go.Proofs

/-
  Walks of layer 9: whatever is done with a disk: Cut.
-/
namespace Go.Proofs
open Go Go.Eng
set_option maxRecDepth 100000
set_option maxHeartbeats 4000000
attribute [local irreducible] Tri

theorem Try.plCut_w {a lb : Option Addr} {ns ca nl lc r i d b9 b11 : Nat} {e : ActE} {w : World} {FS FK : List FileE} {W : List PendE} {a1 : Option Nat} {pc bs bk : Nat} {aS aK aP : Option Addr} {cS cK cP : Nat} {ex : List Seg} (inv : PInv r i FS FK W) (fS : Fz ⟨w, kys [] []⟩ ex aS (fl (ordN (nbs FS)))) (fK : Fz ⟨w, kys [] []⟩ ex aK (fl (ordN (nbs FK)))) (fP : Fz ⟨w, kys [] []⟩ ex aP ((W.map PendE.wn).flatMap wrL))
    (hek : ActOk w e) (hs3 : ¬ 300 < e.s.length) (hn1 : ¬ 100 < e.name.length) (hk1 : ¬ 100 < e.keep.length) (hi30 : i < 30) (hz : ∀ q : PlSt ⟨w, kys [] []⟩ r (i + 1) × Int, At (triCtx Try.prog 8 Try.f8 w (kys [] []) (fun v bx hp => v = .bool true ∧ bx = [] ∧ hp = [])) ⟨0, [0, 1, 1, 1, 1, 0, 0, 1, 0, 0, 1, 0, 1, 1, 1, 1, 1, 1, 1, 1, 1], []⟩ [] ([(0, .slice a ns ca), (1, .int .i64 r), (2, .slice lb nl lc), (7, .pointer (some ⟨d, 0, none⟩)), (9, .pointer (some ⟨b9, 0, none⟩)), (10, .int .i64 i), (11, .pointer (some ⟨b11, 0, none⟩)), (12, .int .i64 q.2), (13, .int .i64 q.2)]) [(b11, 46, acC e), (b9, 76, q.1.x), (d, 112, q.1.dk)] (Try.plHp q.1) ⟨w, kys [] []⟩) (hk4 : ¬ e.k % 7 = 4) (hk5 : e.k % 7 = 5) :
    At (triCtx Try.prog 8 Try.f8 w (kys [] []) (fun v bx hp => v = .bool true ∧ bx = [] ∧ hp = [])) ⟨0, [1, 0, 1, 0, 1, 1, 1, 0, 0, 1, 0, 0, 1, 0, 1, 1, 1, 1, 1, 1, 1, 1, 1], []⟩ [] ([(120, .bool (decide (e.k % 7 = 4))), (99, .int .u8 (e.k % 7)), (13, .int .i64 0), (12, .int .i64 0), (11, .pointer (some ⟨b11, 0, none⟩)), (0, .slice a ns ca), (1, .int .i64 r), (2, .slice lb nl lc), (7, .pointer (some ⟨d, 0, none⟩)), (9, .pointer (some ⟨b9, 0, none⟩)), (10, .int .i64 i)]) [(b11, 46, acC e), (b9, 76, rdV (.slice aS (ordN (nbs FS)).length cS) (.slice aK (ordN (nbs FK)).length cK) (.slice aP W.length cP) r), (d, 112, dkV r bs (.map (some bk)) (sv a1 W.length pc))] [Seg.files 5 bs FS, Seg.row a1 119 2 W.length pc (W.flatMap Try.wrC), Try.boxesS W, Seg.files 5 bk FK, Seg.pack [] ex] ⟨w, kys [] []⟩ := by
  have hen := hek.n
  have hekl := hek.kl
  have hek0 := hek.k
  have hrd : readN (ordN (nbs FS)) e.name = bytesF FS e.name := by rw [read_ord inv.dS, readN_nbs]
  have hlS : (ordN (nbs FS)).length ≤ 1000000 := by rw [ordN_len inv.dS, nbs_len]; have := inv.lS; omega
  have hlK : (ordN (nbs FK)).length ≤ 960 := by rw [ordN_len inv.dK, nbs_len]; have := inv.lK; omega
  have hWn := inv.wn
  have hbl : (bytesF FS e.name).length ≤ 1048576 := by rw [← readN_nbs]; exact inv.fs.read _
  refine At.run 100 true [false, true] [hB 0, hB 0, hB 0] rfl (by (repeat' apply And.intro) <;> first | exact True.intro | omega | (simp only [inK]; omega) | (simp; done) | (simp; omega) | exact decide_eq_true (by omega) | exact decide_eq_false (by omega) | rfl | (simp [Value.oneCell']; done) | exact i64s_one _ | exact AggOk.mk (by kernel_rfl) (by kernel_rfl)) ?_
  refine At.step [] rfl rfl rfl rfl rfl trivial (OpOk.callO [false, false, true] [true] rfl rfl (fun w' _ ho => Try.DCut_w d r bs (some bk) (svA a1) W.length pc FS e.name e.at0 w' ho inv.fs hek.a (by omega)) ?_)
  intro v bx' hp' hcu
  have hCt := fun (w' : World) (hsl : SlOk w' aS (fl (ordN (nbs FS)))) => Try.rCut_w (ordN (nbs FS)) e.name e.at0 aS aK aP cS (ordN (nbs FK)).length cK W.length cP r w' hlS hsl hek.a (by omega) (by rw [hrd]; omega)
  by_cases c1 : 0 < W.length
  · rw [if_pos c1] at hcu
    obtain ⟨rfl, rfl, rfl⟩ := hcu
    refine At.run 100 true [] [hB 2, hB 1, hB 1] rfl (by (repeat' apply And.intro) <;> first | exact True.intro | omega | (simp only [inK]; omega) | (simp; done) | (simp; omega) | exact decide_eq_true (by omega) | exact decide_eq_false (by omega) | rfl | (simp [Value.oneCell']; done) | exact i64s_one _ | exact AggOk.mk (by kernel_rfl) (by kernel_rfl)) ?_
    refine At.step [] rfl rfl rfl rfl rfl trivial (OpOk.call rfl (fun w' hw' => hCt w' (fS.at hw' (by simp))) ?_)
    rintro v bx' hp' ⟨rfl, hcv⟩
    rw [if_pos c1] at hcv
    obtain ⟨rfl, rfl⟩ := hcv
    refine At.run 100 true [] [hB 2] rfl (by (repeat' apply And.intro) <;> first | exact one_of rfl | exact True.intro | omega | rfl | (simp only [inK]; omega) | exact decide_eq_true (by omega) | exact decide_eq_false (by omega) | (simp; done) | (simp; omega) | (simp [Value.oneCell']; done) | exact i64s_one _ | exact AggOk.mk (by kernel_rfl) (by kernel_rfl)) ?_
    refine At.order [0, 2, 2] [] rfl rfl ?_
    exact At.weak (hz (⟨FS, FK, W, a1, pc, bs, bk, aS, aK, aP, cS, cK, cP, ex, inv.next, fS, fK, fP⟩, 8)) ⟨rfl, rfl, rfl, rfl, rfl, rfl, rfl, rfl, rfl, trivial⟩
  by_cases c2 : e.at0 < 0
  · rw [if_neg c1, if_pos c2] at hcu
    obtain ⟨rfl, rfl, rfl⟩ := hcu
    refine At.run 100 true [] [hB 2, hB 1, hB 1] rfl (by (repeat' apply And.intro) <;> first | exact True.intro | omega | (simp only [inK]; omega) | (simp; done) | (simp; omega) | exact decide_eq_true (by omega) | exact decide_eq_false (by omega) | rfl | (simp [Value.oneCell']; done) | exact i64s_one _ | exact AggOk.mk (by kernel_rfl) (by kernel_rfl)) ?_
    refine At.step [] rfl rfl rfl rfl rfl trivial (OpOk.call rfl (fun w' hw' => hCt w' (fS.at hw' (by simp))) ?_)
    rintro v bx' hp' ⟨rfl, hcv⟩
    rw [if_neg c1, if_pos c2] at hcv
    obtain ⟨rfl, rfl⟩ := hcv
    refine At.run 100 true [] [hB 2] rfl (by (repeat' apply And.intro) <;> first | exact one_of rfl | exact True.intro | omega | rfl | (simp only [inK]; omega) | exact decide_eq_true (by omega) | exact decide_eq_false (by omega) | (simp; done) | (simp; omega) | (simp [Value.oneCell']; done) | exact i64s_one _ | exact AggOk.mk (by kernel_rfl) (by kernel_rfl)) ?_
    refine At.order [0, 2, 2] [] rfl rfl ?_
    exact At.weak (hz (⟨FS, FK, W, a1, pc, bs, bk, aS, aK, aP, cS, cK, cP, ex, inv.next, fS, fK, fP⟩, 1)) ⟨rfl, rfl, rfl, rfl, rfl, rfl, rfl, rfl, rfl, trivial⟩
  by_cases c3 : ((bytesF FS e.name).length : Int) ≤ e.at0
  · rw [if_neg c1, if_neg c2, if_pos c3] at hcu
    obtain ⟨rfl, rfl, rfl⟩ := hcu
    refine At.run 100 true [] [hB 2, hB 1, hB 1] rfl (by (repeat' apply And.intro) <;> first | exact True.intro | omega | (simp only [inK]; omega) | (simp; done) | (simp; omega) | exact decide_eq_true (by omega) | exact decide_eq_false (by omega) | rfl | (simp [Value.oneCell']; done) | exact i64s_one _ | exact AggOk.mk (by kernel_rfl) (by kernel_rfl)) ?_
    refine At.step [] rfl rfl rfl rfl rfl trivial (OpOk.call rfl (fun w' hw' => hCt w' (fS.at hw' (by simp))) ?_)
    rintro v bx' hp' ⟨rfl, hcv⟩
    rw [if_neg c1, if_neg c2, if_pos (by rw [hrd]; exact c3)] at hcv
    obtain ⟨rfl, rfl⟩ := hcv
    refine At.run 100 true [] [hB 2] rfl (by (repeat' apply And.intro) <;> first | exact one_of rfl | exact True.intro | omega | rfl | (simp only [inK]; omega) | exact decide_eq_true (by omega) | exact decide_eq_false (by omega) | (simp; done) | (simp; omega) | (simp [Value.oneCell']; done) | exact i64s_one _ | exact AggOk.mk (by kernel_rfl) (by kernel_rfl)) ?_
    refine At.order [0, 2, 2] [] rfl rfl ?_
    exact At.weak (hz (⟨FS, FK, W, a1, pc, bs, bk, aS, aK, aP, cS, cK, cP, ex, inv.next, fS, fK, fP⟩, 0)) ⟨rfl, rfl, rfl, rfl, rfl, rfl, rfl, rfl, rfl, trivial⟩
  have hW0 : W = [] := List.length_eq_zero_iff.1 (by omega)
  subst hW0
  rw [if_neg c1, if_neg c2, if_neg c3] at hcu
  obtain ⟨rfl, b2, F2, g2, c22, rfl, rfl, hp2⟩ := hcu
  obtain ⟨F', hF'⟩ : ∃ F', F' = (if e.at0 = 0 then delF FS e.name else putF FS ⟨e.name, (bytesF FS e.name).take e.at0.toNat, g2, c22⟩) := ⟨_, rfl⟩
  rw [← hF'] at hp2 ⊢
  have hinv : PInv r (i + 1) F' F2 [] := by
    by_cases h0 : e.at0 = 0
    · rw [if_pos h0] at hF'; subst hF'; exact inv.cut0 hp2
    · rw [if_neg h0] at hF'; subst hF'; exact inv.cutP (by omega) (by omega) hp2
  have hoF : ordN (nbs F') = setN e.name ((bytesF FS e.name).take e.at0.toNat) (ordN (nbs FS)) := by
    by_cases h0 : e.at0 = 0
    · rw [if_pos h0] at hF'; subst hF'; rw [delF_nbs inv.dS, h0]; exact ord_del inv.dS e.name
    · rw [if_neg h0] at hF'; subst hF'; rw [putN_nbs]
      refine ord_put inv.dS ?_
      intro h
      have := congrArg List.length h
      simp only [List.length_take, List.length_nil] at this
      omega
  have hoK2 : ordN (nbs F2) = setN e.name ((bytesF FS e.name).take e.at0.toNat) (ordN (nbs FS)) := by rw [ord_perm hinv.dS hp2, hoF]
  refine At.run 100 true [] [hB 2, hB 1, hB 1] rfl (by (repeat' apply And.intro) <;> first | exact True.intro | omega | (simp only [inK]; omega) | (simp; done) | (simp; omega) | exact decide_eq_true (by omega) | exact decide_eq_false (by omega) | rfl | (simp [Value.oneCell']; done) | exact i64s_one _ | exact AggOk.mk (by kernel_rfl) (by kernel_rfl)) ?_
  refine At.step [] rfl rfl rfl rfl rfl trivial (OpOk.call rfl (fun w' hw' => hCt w' (fS.at hw' (by simp))) ?_)
  rintro v bx' hp' ⟨rfl, hcv⟩
  rw [if_neg c1, if_neg c2, if_neg (by rw [hrd]; exact c3), hrd] at hcv
  obtain ⟨a2, c2', rfl, rfl⟩ := hcv
  refine At.run 100 true [] [hB 2] rfl (by (repeat' apply And.intro) <;> first | exact one_of rfl | exact True.intro | omega | rfl | (simp only [inK]; omega) | exact decide_eq_true (by omega) | exact decide_eq_false (by omega) | (simp; done) | (simp; omega) | (simp [Value.oneCell']; done) | exact i64s_one _ | exact AggOk.mk (by kernel_rfl) (by kernel_rfl)) ?_
  refine At.keep [true, true, true] [true, true, true, true, true, false, true] rfl ?_
  refine At.order (br := [(d, 112, dkV r bs (.map (some b2)) (sv a1 0 pc)), (b11, 46, acC e), (b9, 76, rdV (sv a2 (setN e.name ((bytesF FS e.name).take e.at0.toNat) (ordN (nbs FS))).length c2') (sv a2 (setN e.name ((bytesF FS e.name).take e.at0.toNat) (ordN (nbs FS))).length c2') (.slice aP 0 cP) r)]) (hr := [Seg.row a2 56 2 (setN e.name ((bytesF FS e.name).take e.at0.toNat) (ordN (nbs FS))).length c2' (fl (setN e.name ((bytesF FS e.name).take e.at0.toNat) (ordN (nbs FS)))), Seg.pack [] ex, Seg.files 5 b2 (F2), Seg.files 5 bs (F'), Seg.row a1 119 2 0 pc [], Try.boxesS []]) [] [4, 4, 4, 4, 5, 5] rfl rfl ?_
  refine At.reshape (fun w' hw' => WOk.freeze hw') ?_
  refine At.order (br := [(b11, 46, acC e), (b9, 76, rdV (sv a2 (setN e.name ((bytesF FS e.name).take e.at0.toNat) (ordN (nbs FS))).length c2') (sv a2 (setN e.name ((bytesF FS e.name).take e.at0.toNat) (ordN (nbs FS))).length c2') (.slice aP 0 cP) r), (d, 112, dkV r bs (.map (some b2)) (sv a1 0 pc))]) (hr := [Seg.files 5 bs (F'), Seg.row a1 119 2 0 pc [], Try.boxesS [], Seg.files 5 b2 (F2), Seg.pack [] (Seg.row a2 56 2 (setN e.name ((bytesF FS e.name).take e.at0.toNat) (ordN (nbs FS))).length c2' (fl (setN e.name ((bytesF FS e.name).take e.at0.toNat) (ordN (nbs FS)))) :: ex)]) [0, 2, 2] [0, 1, 4, 4, 4] rfl rfl ?_
  have hz1 := hz (⟨F', F2, [], a1, pc, bs, b2, svA a2, svA a2, aP, c2', c2', cP, Seg.row a2 56 2 (setN e.name ((bytesF FS e.name).take e.at0.toNat) (ordN (nbs FS))).length c2' (fl (setN e.name ((bytesF FS e.name).take e.at0.toNat) (ordN (nbs FS)))) :: ex, hinv, by rw [hoF]; exact Fz.row, by rw [hoK2]; exact Fz.row, Fz.nil⟩, 0)
  dsimp only [PlSt.x, PlSt.dk, Try.plHp] at hz1
  rw [hoF, hoK2] at hz1
  exact At.weak hz1 ⟨rfl, rfl, rfl, rfl, rfl, rfl, rfl, rfl, rfl, trivial⟩

end Go.Proofs

/-
  Walks of layer 9: whatever is done with a disk: Crash.
-/
namespace Go.Proofs
open Go Go.Eng
set_option maxRecDepth 100000
set_option maxHeartbeats 4000000
attribute [local irreducible] Tri

theorem Try.plCrash_w {a lb : Option Addr} {ns ca nl lc r i d b9 b11 : Nat} {e : ActE} {w : World} {FS FK : List FileE} {W : List PendE} {a1 : Option Nat} {pc bs bk : Nat} {aS aK aP : Option Addr} {cS cK cP : Nat} {ex : List Seg} (inv : PInv r i FS FK W) (fS : Fz ⟨w, kys [] []⟩ ex aS (fl (ordN (nbs FS)))) (fK : Fz ⟨w, kys [] []⟩ ex aK (fl (ordN (nbs FK)))) (fP : Fz ⟨w, kys [] []⟩ ex aP ((W.map PendE.wn).flatMap wrL))
    (hek : ActOk w e) (hs3 : ¬ 300 < e.s.length) (hn1 : ¬ 100 < e.name.length) (hk1 : ¬ 100 < e.keep.length) (hi30 : i < 30) (hz : ∀ q : PlSt ⟨w, kys [] []⟩ r (i + 1) × Int, At (triCtx Try.prog 8 Try.f8 w (kys [] []) (fun v bx hp => v = .bool true ∧ bx = [] ∧ hp = [])) ⟨0, [0, 1, 1, 1, 1, 0, 0, 1, 0, 0, 1, 0, 1, 1, 1, 1, 1, 1, 1, 1, 1], []⟩ [] ([(0, .slice a ns ca), (1, .int .i64 r), (2, .slice lb nl lc), (7, .pointer (some ⟨d, 0, none⟩)), (9, .pointer (some ⟨b9, 0, none⟩)), (10, .int .i64 i), (11, .pointer (some ⟨b11, 0, none⟩)), (12, .int .i64 q.2), (13, .int .i64 q.2)]) [(b11, 46, acC e), (b9, 76, q.1.x), (d, 112, q.1.dk)] (Try.plHp q.1) ⟨w, kys [] []⟩) (hk4 : ¬ e.k % 7 = 4) (hk5 : ¬ e.k % 7 = 5) (hk6 : e.k % 7 = 6) :
    At (triCtx Try.prog 8 Try.f8 w (kys [] []) (fun v bx hp => v = .bool true ∧ bx = [] ∧ hp = [])) ⟨0, [1, 0, 1, 0, 1, 1, 1, 0, 0, 1, 0, 0, 1, 0, 1, 1, 1, 1, 1, 1, 1, 1, 1], []⟩ [] ([(120, .bool (decide (e.k % 7 = 4))), (99, .int .u8 (e.k % 7)), (13, .int .i64 0), (12, .int .i64 0), (11, .pointer (some ⟨b11, 0, none⟩)), (0, .slice a ns ca), (1, .int .i64 r), (2, .slice lb nl lc), (7, .pointer (some ⟨d, 0, none⟩)), (9, .pointer (some ⟨b9, 0, none⟩)), (10, .int .i64 i)]) [(b11, 46, acC e), (b9, 76, rdV (.slice aS (ordN (nbs FS)).length cS) (.slice aK (ordN (nbs FK)).length cK) (.slice aP W.length cP) r), (d, 112, dkV r bs (.map (some bk)) (sv a1 W.length pc))] [Seg.files 5 bs FS, Seg.row a1 119 2 W.length pc (W.flatMap Try.wrC), Try.boxesS W, Seg.files 5 bk FK, Seg.pack [] ex] ⟨w, kys [] []⟩ := by
  have hen := hek.n
  have hekl := hek.kl
  have hek0 := hek.k
  have hrd : readN (ordN (nbs FS)) e.name = bytesF FS e.name := by rw [read_ord inv.dS, readN_nbs]
  have hlS : (ordN (nbs FS)).length ≤ 1000000 := by rw [ordN_len inv.dS, nbs_len]; have := inv.lS; omega
  have hlK : (ordN (nbs FK)).length ≤ 960 := by rw [ordN_len inv.dK, nbs_len]; have := inv.lK; omega
  have hWn := inv.wn
  have hbl : (bytesF FS e.name).length ≤ 1048576 := by rw [← readN_nbs]; exact inv.fs.read _
  refine At.run 100 true [false, false, true] [hB 0, hB 0] rfl (by (repeat' apply And.intro) <;> first | exact True.intro | omega | (simp only [inK]; omega) | (simp; done) | (simp; omega) | exact decide_eq_true (by omega) | exact decide_eq_false (by omega) | rfl | (simp [Value.oneCell']; done) | exact i64s_one _ | exact AggOk.mk (by kernel_rfl) (by kernel_rfl)) ?_
  refine At.step [] rfl rfl rfl rfl rfl trivial (OpOk.call rfl (fun w' _ => Try.Keep_w (.slice e.ka e.keep.length e.kc) w' rfl ⟨_, _, _, rfl⟩) ?_)
  rintro v bx' hp' ⟨b, rfl, rfl, rfl⟩
  refine At.order (br := [(d, 112, dkV r bs (.map (some bk)) (sv a1 W.length pc)), (b, 40, [.slice e.ka e.keep.length e.kc]), (b11, 46, acC e), (b9, 76, rdV (.slice aS (ordN (nbs FS)).length cS) (.slice aK (ordN (nbs FK)).length cK) (.slice aP W.length cP) r)]) (hr := [Seg.files 5 bk FK, Seg.row a1 119 2 W.length pc (W.flatMap Try.wrC), Try.boxesS W, Seg.files 5 bs FS, Seg.pack [] ex]) [2, 2, 2, 3] [0, 2, 2, 3] rfl rfl ?_
  have hKp : ∀ w', WOk ⟨w, kys [] []⟩ ([(d, 112, dkV r bs (.map (some bk)) (sv a1 W.length pc))] ++ [(b, 40, [.slice e.ka e.keep.length e.kc]), (b11, 46, acC e), (b9, 76, rdV (.slice aS (ordN (nbs FS)).length cS) (.slice aK (ordN (nbs FK)).length cK) (.slice aP W.length cP) r)]) ([Seg.files 5 bk FK, Seg.row a1 119 2 W.length pc (W.flatMap Try.wrC), Try.boxesS W] ++ [Seg.files 5 bs FS, Seg.pack [] ex]) w' → Own [(d, 112, dkV r bs (.map (some bk)) (sv a1 W.length pc))] [Seg.files 5 bk FK, Seg.row a1 119 2 W.length pc (W.flatMap Try.wrC), Try.boxesS W] w' → Tri Try.prog 24 [.pointer (some ⟨d, 0, none⟩), .func (.func 72) ⟨[]⟩ ⟨[.pointer (some ⟨b, 0, none⟩)]⟩] w' (kys [(d, 112, dkV r bs (.map (some bk)) (sv a1 W.length pc))] [Seg.files 5 bk FK, Seg.row a1 119 2 W.length pc (W.flatMap Try.wrC), Try.boxesS W]) _ := fun w' hw' ho =>
    Try.Crash_w d r bs bk a1 pc FK W 72 [.pointer (some ⟨b, 0, none⟩)] (keepN e.keep) w' ho (fun j w'' hj hx => Try.Keep1_w e.keep e.ka e.kc j b w''
      (by rw [hx.block b (hw'.lt b (mem_kys_bx (e := (b, 40, [.slice e.ka e.keep.length e.kc])) (by simp))) (WOk.apartR hw' (e := (b, 40, [.slice e.ka e.keep.length e.kc])) (by simp))]; exact hw'.bx (b, 40, [.slice e.ka e.keep.length e.kc]) (by simp))
      (SlOk.ext2 hek.sl hw' rfl (fun k hk => (kys_append _ _ _ _).mem_iff.2 (List.mem_append_left _ hk)) hx) hekl) inv.fk inv.w (by omega)
  refine At.step [] rfl rfl rfl rfl rfl trivial (OpOk.callO [true] [true, true, true] rfl rfl hKp ?_)
  rintro v bx' hp' ⟨rfl, b3, F3, F2, rfl, rfl, hF2, hF3, hfok⟩
  have hinv := inv.crash (keepN e.keep) (by omega) hF2 hF3
  have hoF2 : ordN (nbs F2) = crashR (ordN (nbs FK)) (W.map PendE.wn) (keepN e.keep) 0 := by rw [hF2]; exact (ord_crash _ _ _ 0 inv.dK).1
  have hoF3 : ordN (nbs F3) = crashR (ordN (nbs FK)) (W.map PendE.wn) (keepN e.keep) 0 := by rw [ord_perm hinv.dK hF3, hoF2]
  refine At.run 100 true [] [hB 3, hB 2] rfl (by (repeat' apply And.intro) <;> first | exact True.intro | omega | (simp only [inK]; omega) | (simp; done) | (simp; omega) | exact decide_eq_true (by omega) | exact decide_eq_false (by omega) | rfl | (simp [Value.oneCell']; done) | exact i64s_one _ | exact AggOk.mk (by kernel_rfl) (by kernel_rfl)) ?_
  refine At.step [] rfl rfl rfl rfl rfl trivial (OpOk.call rfl (fun w' hw' => by
    have := Try.rCrash_w (ordN (nbs FK)) (W.map PendE.wn) e.keep aS aK aP e.ka (ordN (nbs FS)).length cS cK cP e.kc r w' (by rw [List.length_map]; omega) (fK.at hw' (by simp)) (fP.at hw' (by simp)) (hek.sl.ext hw'.ext (by simp [kys])) (by omega) hek.ki
      (fun p hp => (inv.fk p ((ordN_perm inv.dK).mem_iff.1 hp)).2) (fun x hx => by obtain ⟨y, hy, rfl⟩ := List.mem_map.1 hx; exact inv.w y hy)
    rw [List.length_map] at this
    exact this) ?_)
  rintro v bx' hp' ⟨a2, c2, rfl, rfl, hone⟩
  refine At.run 100 true [] [hB 3] rfl (by (repeat' apply And.intro) <;> first | exact one_of rfl | exact True.intro | omega | rfl | (simp only [inK]; omega) | exact decide_eq_true (by omega) | exact decide_eq_false (by omega) | (simp; done) | (simp; omega) | (simp [Value.oneCell']; done) | exact i64s_one _ | exact AggOk.mk (by kernel_rfl) (by kernel_rfl)) ?_
  rcases hone with ⟨rfl, rfl, rfl, hx⟩ | ⟨g2, rfl, rfl⟩
  · refine At.keep [true, false, true, true] [true, true, false, true] rfl ?_
    refine At.nilRow 119 2 ?_
    refine At.reshape (fun w' hw' => WOk.nilBoxes hw') ?_
    refine At.order (br := [(b11, 46, acC e), (b9, 76, rdV (.slice a2 (crashR (ordN (nbs FK)) (W.map PendE.wn) (keepN e.keep) 0).length c2) (.slice a2 (crashR (ordN (nbs FK)) (W.map PendE.wn) (keepN e.keep) 0).length c2) (.slice none 0 0) r), (d, 112, dkV r b3 (.map (some bk)) (.slice none 0 0))]) (hr := [Seg.files 5 b3 (F3), Seg.row none 119 2 0 0 [], Try.boxesS [], Seg.files 5 bk (F2), Seg.pack [] ex]) [0, 2, 2] [0, 1, 2] rfl rfl ?_
    have hz1 := hz (⟨F3, F2, [], none, 0, b3, bk, a2, a2, none, c2, c2, 0, ex, hinv, by rw [hoF3, hx]; exact fK, by rw [hoF2, hx]; exact fK, Fz.nil⟩, 0)
    dsimp only [PlSt.x, PlSt.dk, Try.plHp] at hz1
    rw [hoF3, hoF2] at hz1
    exact At.weak hz1 ⟨rfl, rfl, rfl, rfl, rfl, rfl, rfl, rfl, rfl, trivial⟩
  · refine At.keep [true, false, true, true] [true, true, true, false, true] rfl ?_
    refine At.order (br := [(d, 112, dkV r b3 (.map (some bk)) (.slice none 0 0)), (b11, 46, acC e), (b9, 76, rdV (.slice (svA g2) (crashR (ordN (nbs FK)) (W.map PendE.wn) (keepN e.keep) 0).length c2) (.slice (svA g2) (crashR (ordN (nbs FK)) (W.map PendE.wn) (keepN e.keep) 0).length c2) (.slice none 0 0) r)]) (hr := [Seg.row g2 56 2 (crashR (ordN (nbs FK)) (W.map PendE.wn) (keepN e.keep) 0).length c2 (fl (crashR (ordN (nbs FK)) (W.map PendE.wn) (keepN e.keep) 0)), Seg.pack [] ex, Seg.files 5 b3 (F3), Seg.files 5 bk (F2)]) [] [2, 2, 3, 3] rfl rfl ?_
    refine At.reshape (fun w' hw' => WOk.freeze hw') ?_
    refine At.nilRow 119 2 ?_
    refine At.reshape (fun w' hw' => WOk.nilBoxes hw') ?_
    refine At.order (br := [(b11, 46, acC e), (b9, 76, rdV (.slice (svA g2) (crashR (ordN (nbs FK)) (W.map PendE.wn) (keepN e.keep) 0).length c2) (.slice (svA g2) (crashR (ordN (nbs FK)) (W.map PendE.wn) (keepN e.keep) 0).length c2) (.slice none 0 0) r), (d, 112, dkV r b3 (.map (some bk)) (.slice none 0 0))]) (hr := [Seg.files 5 b3 (F3), Seg.row none 119 2 0 0 [], Try.boxesS [], Seg.files 5 bk (F2), Seg.pack [] (Seg.row g2 56 2 (crashR (ordN (nbs FK)) (W.map PendE.wn) (keepN e.keep) 0).length c2 (fl (crashR (ordN (nbs FK)) (W.map PendE.wn) (keepN e.keep) 0)) :: ex)]) [0, 2, 2] [2, 4, 2, 3, 4] rfl rfl ?_
    have hz1 := hz (⟨F3, F2, [], none, 0, b3, bk, svA g2, svA g2, none, c2, c2, 0, Seg.row g2 56 2 (crashR (ordN (nbs FK)) (W.map PendE.wn) (keepN e.keep) 0).length c2 (fl (crashR (ordN (nbs FK)) (W.map PendE.wn) (keepN e.keep) 0)) :: ex, hinv, by rw [hoF3]; exact Fz.row, by rw [hoF2]; exact Fz.row, Fz.nil⟩, 0)
    dsimp only [PlSt.x, PlSt.dk, Try.plHp] at hz1
    rw [hoF3, hoF2] at hz1
    exact At.weak hz1 ⟨rfl, rfl, rfl, rfl, rfl, rfl, rfl, rfl, rfl, trivial⟩

end Go.Proofs

/-
  Walks of layer 9: whatever is done with a disk: Write.
-/
namespace Go.Proofs
open Go Go.Eng
set_option maxRecDepth 100000
set_option maxHeartbeats 4000000
attribute [local irreducible] Tri

theorem Try.plWrite_w {a lb : Option Addr} {ns ca nl lc r i d b9 b11 : Nat} {e : ActE} {w : World} {FS FK : List FileE} {W : List PendE} {a1 : Option Nat} {pc bs bk : Nat} {aS aK aP : Option Addr} {cS cK cP : Nat} {ex : List Seg} (inv : PInv r i FS FK W) (fS : Fz ⟨w, kys [] []⟩ ex aS (fl (ordN (nbs FS)))) (fK : Fz ⟨w, kys [] []⟩ ex aK (fl (ordN (nbs FK)))) (fP : Fz ⟨w, kys [] []⟩ ex aP ((W.map PendE.wn).flatMap wrL))
    (hek : ActOk w e) (hs3 : ¬ 300 < e.s.length) (hn1 : ¬ 100 < e.name.length) (hk1 : ¬ 100 < e.keep.length) (hi30 : i < 30) (hz : ∀ q : PlSt ⟨w, kys [] []⟩ r (i + 1) × Int, At (triCtx Try.prog 8 Try.f8 w (kys [] []) (fun v bx hp => v = .bool true ∧ bx = [] ∧ hp = [])) ⟨0, [0, 1, 1, 1, 1, 0, 0, 1, 0, 0, 1, 0, 1, 1, 1, 1, 1, 1, 1, 1, 1], []⟩ [] ([(0, .slice a ns ca), (1, .int .i64 r), (2, .slice lb nl lc), (7, .pointer (some ⟨d, 0, none⟩)), (9, .pointer (some ⟨b9, 0, none⟩)), (10, .int .i64 i), (11, .pointer (some ⟨b11, 0, none⟩)), (12, .int .i64 q.2), (13, .int .i64 q.2)]) [(b11, 46, acC e), (b9, 76, q.1.x), (d, 112, q.1.dk)] (Try.plHp q.1) ⟨w, kys [] []⟩) (hk4 : ¬ e.k % 7 = 4) (hk5 : ¬ e.k % 7 = 5) (hk6 : ¬ e.k % 7 = 6) :
    At (triCtx Try.prog 8 Try.f8 w (kys [] []) (fun v bx hp => v = .bool true ∧ bx = [] ∧ hp = [])) ⟨0, [1, 0, 1, 0, 1, 1, 1, 0, 0, 1, 0, 0, 1, 0, 1, 1, 1, 1, 1, 1, 1, 1, 1], []⟩ [] ([(120, .bool (decide (e.k % 7 = 4))), (99, .int .u8 (e.k % 7)), (13, .int .i64 0), (12, .int .i64 0), (11, .pointer (some ⟨b11, 0, none⟩)), (0, .slice a ns ca), (1, .int .i64 r), (2, .slice lb nl lc), (7, .pointer (some ⟨d, 0, none⟩)), (9, .pointer (some ⟨b9, 0, none⟩)), (10, .int .i64 i)]) [(b11, 46, acC e), (b9, 76, rdV (.slice aS (ordN (nbs FS)).length cS) (.slice aK (ordN (nbs FK)).length cK) (.slice aP W.length cP) r), (d, 112, dkV r bs (.map (some bk)) (sv a1 W.length pc))] [Seg.files 5 bs FS, Seg.row a1 119 2 W.length pc (W.flatMap Try.wrC), Try.boxesS W, Seg.files 5 bk FK, Seg.pack [] ex] ⟨w, kys [] []⟩ := by
  have hen := hek.n
  have hekl := hek.kl
  have hek0 := hek.k
  have hrd : readN (ordN (nbs FS)) e.name = bytesF FS e.name := by rw [read_ord inv.dS, readN_nbs]
  have hlS : (ordN (nbs FS)).length ≤ 1000000 := by rw [ordN_len inv.dS, nbs_len]; have := inv.lS; omega
  have hlK : (ordN (nbs FK)).length ≤ 960 := by rw [ordN_len inv.dK, nbs_len]; have := inv.lK; omega
  have hWn := inv.wn
  have hbl : (bytesF FS e.name).length ≤ 1048576 := by rw [← readN_nbs]; exact inv.fs.read _
  refine At.run 100 true [false, false, false] [hB 0, hB 0, hB 0, hB 0] rfl (by (repeat' apply And.intro) <;> first | exact True.intro | omega | (simp only [inK]; omega) | (simp; done) | (simp; omega) | exact decide_eq_true (by omega) | exact decide_eq_false (by omega) | rfl | (simp [Value.oneCell']; done) | exact i64s_one _ | exact AggOk.mk (by kernel_rfl) (by kernel_rfl)) ?_
  have hul := inv.used
  have hrr := inv.hr
  refine At.step [] rfl rfl rfl rfl rfl trivial (OpOk.callO [false, false, true] [true, true, true] rfl rfl (fun w' _ ho => Try.DWrite_w d r bs (.map (some bk)) a1 pc FS W e.name e.at0 e.s w' ho inv.hr (by rw [usedF_nbs]; omega) (fun f hf => (inv.fs _ (mem_nbs hf)).2) (by omega) hen (by omega) hek.a) ?_)
  rintro v bx' hp' ⟨rfl, hW0⟩
  have hER := wrE_R inv e.name e.at0 e.s
  have hWr := fun (w' : World) (h1 : SlOk w' aS (fl (ordN (nbs FS)))) (h2 : SlOk w' aP ((W.map PendE.wn).flatMap wrL)) => Try.rWrites_w (ordN (nbs FS)) (W.map PendE.wn) e.name e.s e.at0 aS aK aP cS (ordN (nbs FK)).length cK cP r w' hlS h1 h2 (by rw [List.length_map]; omega) hen (by omega) hek.a (by rw [sum_ord inv.dS]; omega) (by omega)
  simp only [List.length_map] at hWr
  by_cases he0 : wrE r FS e.name e.at0 e.s = 0
  · rw [if_neg (by simp [he0])] at hW0
    obtain ⟨a2, p2, g2, c2, b1, b2, b3, rfl, rfl⟩ := hW0
    rw [he0] at hER ⊢
    refine At.run 100 true [] [hB 2, hB 1, hB 1, hB 1] rfl (by (repeat' apply And.intro) <;> first | exact True.intro | omega | (simp only [inK]; omega) | (simp; done) | (simp; omega) | exact decide_eq_true (by omega) | exact decide_eq_false (by omega) | rfl | (simp [Value.oneCell']; done) | exact i64s_one _ | exact AggOk.mk (by kernel_rfl) (by kernel_rfl)) ?_
    refine At.step [] rfl rfl rfl rfl rfl trivial (OpOk.call rfl (fun w' hw' => hWr w' (fS.at hw' (by simp)) (fP.at hw' (by simp))) ?_)
    rintro v bx' hp' ⟨rfl, hcv⟩
    rw [if_pos hER.symm] at hcv
    obtain ⟨a3, c3, a4, c4, rfl, rfl⟩ := hcv
    refine At.run 100 true [] [hB 2] rfl (by (repeat' apply And.intro) <;> first | exact one_of rfl | exact True.intro | omega | rfl | (simp only [inK]; omega) | exact decide_eq_true (by omega) | exact decide_eq_false (by omega) | (simp; done) | (simp; omega) | (simp [Value.oneCell']; done) | exact i64s_one _ | exact AggOk.mk (by kernel_rfl) (by kernel_rfl)) ?_
    have hs0 : e.s ≠ [] := by
      intro h
      unfold wrR at hER
      rw [if_pos (.inr h)] at hER
      cases hER
    have hoF : ordN (nbs (putF FS ⟨e.name, wrB (bytesF FS e.name) e.at0.toNat e.s, g2, c2⟩)) = setN e.name (wrB (readN (ordN (nbs FS)) e.name) e.at0.toNat e.s) (ordN (nbs FS)) := by
      rw [putN_nbs, hrd]
      exact ord_put inv.dS (wrB_ne hs0)
    refine At.order (br := [(d, 112, dkV r bs (.map (some bk)) (sv a2 (W.length + 1) p2)), (b11, 46, acC e), (b9, 76, rdV (sv a3 (setN e.name (wrB (readN (ordN (nbs FS)) e.name) e.at0.toNat e.s) (ordN (nbs FS))).length c3) (.slice aK (ordN (nbs FK)).length cK) (sv a4 (W.length + 1) c4) r)]) (hr := [Seg.row a4 85 3 (W.length + 1) c4 ((W.map PendE.wn ++ [(e.name, e.at0.toNat, e.s)]).flatMap wrL), Seg.pack [] ex, Seg.row a3 56 2 (setN e.name (wrB (readN (ordN (nbs FS)) e.name) e.at0.toNat e.s) (ordN (nbs FS))).length c3 (fl (setN e.name (wrB (readN (ordN (nbs FS)) e.name) e.at0.toNat e.s) (ordN (nbs FS)))), Seg.files 5 bs (putF FS ⟨e.name, wrB (bytesF FS e.name) e.at0.toNat e.s, g2, c2⟩), Seg.row a2 119 2 (W.length + 1) p2 ((W ++ [(⟨e.name, e.at0.toNat, e.s, b1, b2, b3⟩ : PendE)]).flatMap Try.wrC), Try.boxesS (W ++ [(⟨e.name, e.at0.toNat, e.s, b1, b2, b3⟩ : PendE)]), Seg.files 5 bk FK]) [] [5, 5, 5, 5, 5, 6, 6] rfl rfl ?_
    refine At.reshape (fun w' hw' => WOk.freeze hw') ?_
    refine At.order (br := [(d, 112, dkV r bs (.map (some bk)) (sv a2 (W.length + 1) p2)), (b11, 46, acC e), (b9, 76, rdV (sv a3 (setN e.name (wrB (readN (ordN (nbs FS)) e.name) e.at0.toNat e.s) (ordN (nbs FS))).length c3) (.slice aK (ordN (nbs FK)).length cK) (sv a4 (W.length + 1) c4) r)]) (hr := [Seg.row a3 56 2 (setN e.name (wrB (readN (ordN (nbs FS)) e.name) e.at0.toNat e.s) (ordN (nbs FS))).length c3 (fl (setN e.name (wrB (readN (ordN (nbs FS)) e.name) e.at0.toNat e.s) (ordN (nbs FS)))), Seg.pack [] (Seg.row a4 85 3 (W.length + 1) c4 ((W.map PendE.wn ++ [(e.name, e.at0.toNat, e.s)]).flatMap wrL) :: ex), Seg.files 5 bs (putF FS ⟨e.name, wrB (bytesF FS e.name) e.at0.toNat e.s, g2, c2⟩), Seg.row a2 119 2 (W.length + 1) p2 ((W ++ [(⟨e.name, e.at0.toNat, e.s, b1, b2, b3⟩ : PendE)]).flatMap Try.wrC), Try.boxesS (W ++ [(⟨e.name, e.at0.toNat, e.s, b1, b2, b3⟩ : PendE)]), Seg.files 5 bk FK]) [] [0, 1] rfl rfl ?_
    refine At.reshape (fun w' hw' => WOk.freeze hw') ?_
    refine At.order (br := [(b11, 46, acC e), (b9, 76, rdV (sv a3 (setN e.name (wrB (readN (ordN (nbs FS)) e.name) e.at0.toNat e.s) (ordN (nbs FS))).length c3) (.slice aK (ordN (nbs FK)).length cK) (sv a4 (W.length + 1) c4) r), (d, 112, dkV r bs (.map (some bk)) (sv a2 (W.length + 1) p2))]) (hr := [Seg.files 5 bs (putF FS ⟨e.name, wrB (bytesF FS e.name) e.at0.toNat e.s, g2, c2⟩), Seg.row a2 119 2 (W.length + 1) p2 ((W ++ [(⟨e.name, e.at0.toNat, e.s, b1, b2, b3⟩ : PendE)]).flatMap Try.wrC), Try.boxesS (W ++ [(⟨e.name, e.at0.toNat, e.s, b1, b2, b3⟩ : PendE)]), Seg.files 5 bk FK, Seg.pack [] (Seg.row a3 56 2 (setN e.name (wrB (readN (ordN (nbs FS)) e.name) e.at0.toNat e.s) (ordN (nbs FS))).length c3 (fl (setN e.name (wrB (readN (ordN (nbs FS)) e.name) e.at0.toNat e.s) (ordN (nbs FS)))) :: Seg.row a4 85 3 (W.length + 1) c4 ((W.map PendE.wn ++ [(e.name, e.at0.toNat, e.s)]).flatMap wrL) :: ex)]) [0, 2, 2] [0, 4, 4, 4, 4] rfl rfl ?_
    have hz1 := hz (⟨putF FS ⟨e.name, wrB (bytesF FS e.name) e.at0.toNat e.s, g2, c2⟩, FK, W ++ [⟨e.name, e.at0.toNat, e.s, b1, b2, b3⟩], a2, p2, bs, bk, svA a3, aK, svA a4, c3, cK, c4, Seg.row a3 56 2 (setN e.name (wrB (readN (ordN (nbs FS)) e.name) e.at0.toNat e.s) (ordN (nbs FS))).length c3 (fl (setN e.name (wrB (readN (ordN (nbs FS)) e.name) e.at0.toNat e.s) (ordN (nbs FS)))) :: Seg.row a4 85 3 (W.length + 1) c4 ((W.map PendE.wn ++ [(e.name, e.at0.toNat, e.s)]).flatMap wrL) :: ex, inv.put (g := g2) (c := c2) (b1 := b1) (b2 := b2) (b3 := b3) hER.symm, by rw [hoF]; exact Fz.row, fK.cons.cons, by rw [List.map_append]; exact Fz.row.cons⟩, 0)
    dsimp only [PlSt.x, PlSt.dk, Try.plHp] at hz1
    rw [hoF] at hz1
    simp only [List.length_append, List.length_cons, List.length_nil, Nat.zero_add] at hz1
    exact At.weak hz1 ⟨rfl, rfl, rfl, rfl, rfl, rfl, rfl, rfl, rfl, trivial⟩
  · rw [if_pos he0] at hW0
    obtain ⟨rfl, rfl⟩ := hW0
    rw [hER] at he0 ⊢
    refine At.run 100 true [] [hB 2, hB 1, hB 1, hB 1] rfl (by (repeat' apply And.intro) <;> first | exact True.intro | omega | (simp only [inK]; omega) | (simp; done) | (simp; omega) | exact decide_eq_true (by omega) | exact decide_eq_false (by omega) | rfl | (simp [Value.oneCell']; done) | exact i64s_one _ | exact AggOk.mk (by kernel_rfl) (by kernel_rfl)) ?_
    refine At.step [] rfl rfl rfl rfl rfl trivial (OpOk.call rfl (fun w' hw' => hWr w' (fS.at hw' (by simp)) (fP.at hw' (by simp))) ?_)
    rintro v bx' hp' ⟨rfl, hcv⟩
    rw [if_neg he0] at hcv
    obtain ⟨rfl, rfl⟩ := hcv
    refine At.run 100 true [] [hB 2] rfl (by (repeat' apply And.intro) <;> first | exact one_of rfl | exact True.intro | omega | rfl | (simp only [inK]; omega) | exact decide_eq_true (by omega) | exact decide_eq_false (by omega) | (simp; done) | (simp; omega) | (simp [Value.oneCell']; done) | exact i64s_one _ | exact AggOk.mk (by kernel_rfl) (by kernel_rfl)) ?_
    refine At.order [0, 2, 2] [] rfl rfl ?_
    exact At.weak (hz (⟨FS, FK, W, a1, pc, bs, bk, aS, aK, aP, cS, cK, cP, ex, inv.next, fS, fK, fP⟩, wrR r (ordN (nbs FS)) e.name e.at0 e.s)) ⟨rfl, rfl, rfl, rfl, rfl, rfl, rfl, rfl, rfl, trivial⟩

end Go.Proofs

/-
  Walks of layer 9: whatever is done with a disk.
-/
namespace Go.Proofs
open Go Go.Eng
set_option maxRecDepth 100000
set_option maxHeartbeats 4000000
attribute [local irreducible] Tri

theorem Try.plCases_w {a lb : Option Addr} {ns ca nl lc r i d b9 b11 : Nat} {e : ActE} {w : World} {FS FK : List FileE} {W : List PendE} {a1 : Option Nat} {pc bs bk : Nat} {aS aK aP : Option Addr} {cS cK cP : Nat} {ex : List Seg} (inv : PInv r i FS FK W) (fS : Fz ⟨w, kys [] []⟩ ex aS (fl (ordN (nbs FS)))) (fK : Fz ⟨w, kys [] []⟩ ex aK (fl (ordN (nbs FK)))) (fP : Fz ⟨w, kys [] []⟩ ex aP ((W.map PendE.wn).flatMap wrL))
    (hek : ActOk w e) (hs3 : ¬ 300 < e.s.length) (hn1 : ¬ 100 < e.name.length) (hk1 : ¬ 100 < e.keep.length) (hi30 : i < 30) (hz : ∀ q : PlSt ⟨w, kys [] []⟩ r (i + 1) × Int, At (triCtx Try.prog 8 Try.f8 w (kys [] []) (fun v bx hp => v = .bool true ∧ bx = [] ∧ hp = [])) ⟨0, [0, 1, 1, 1, 1, 0, 0, 1, 0, 0, 1, 0, 1, 1, 1, 1, 1, 1, 1, 1, 1], []⟩ [] ([(0, .slice a ns ca), (1, .int .i64 r), (2, .slice lb nl lc), (7, .pointer (some ⟨d, 0, none⟩)), (9, .pointer (some ⟨b9, 0, none⟩)), (10, .int .i64 i), (11, .pointer (some ⟨b11, 0, none⟩)), (12, .int .i64 q.2), (13, .int .i64 q.2)]) [(b11, 46, acC e), (b9, 76, q.1.x), (d, 112, q.1.dk)] (Try.plHp q.1) ⟨w, kys [] []⟩) :
    At (triCtx Try.prog 8 Try.f8 w (kys [] []) (fun v bx hp => v = .bool true ∧ bx = [] ∧ hp = [])) ⟨0, [1, 0, 1, 0, 1, 1, 1, 0, 0, 1, 0, 0, 1, 0, 1, 1, 1, 1, 1, 1, 1, 1, 1], []⟩ [] ([(120, .bool (decide (e.k % 7 = 4))), (99, .int .u8 (e.k % 7)), (13, .int .i64 0), (12, .int .i64 0), (11, .pointer (some ⟨b11, 0, none⟩)), (0, .slice a ns ca), (1, .int .i64 r), (2, .slice lb nl lc), (7, .pointer (some ⟨d, 0, none⟩)), (9, .pointer (some ⟨b9, 0, none⟩)), (10, .int .i64 i)]) [(b11, 46, acC e), (b9, 76, rdV (.slice aS (ordN (nbs FS)).length cS) (.slice aK (ordN (nbs FK)).length cK) (.slice aP W.length cP) r), (d, 112, dkV r bs (.map (some bk)) (sv a1 W.length pc))] [Seg.files 5 bs FS, Seg.row a1 119 2 W.length pc (W.flatMap Try.wrC), Try.boxesS W, Seg.files 5 bk FK, Seg.pack [] ex] ⟨w, kys [] []⟩ := by
  by_cases hk4 : e.k % 7 = 4
  · exact Try.plSync_w inv fS fK fP hek hs3 hn1 hk1 hi30 hz hk4
  by_cases hk5 : e.k % 7 = 5
  · exact Try.plCut_w inv fS fK fP hek hs3 hn1 hk1 hi30 hz hk4 hk5
  by_cases hk6 : e.k % 7 = 6
  · exact Try.plCrash_w inv fS fK fP hek hs3 hn1 hk1 hi30 hz hk4 hk5 hk6
  · exact Try.plWrite_w inv fS fK fP hek hs3 hn1 hk1 hi30 hz hk4 hk5 hk6

theorem Try.plays_w (S : FL) (a : Option Addr) (ca : Nat) (room : Int) (L : List ActE) (lb : Option Addr) (lc : Nat) (w : World) (hSl : S.length ≤ 9223372036854775807) (hS : SlOk w a (fl S)) (hSn : ∀ p, p ∈ S → p.1.length ≤ 9223372036854775807 ∧ p.2.length ≤ 9223372036854775807)
    (hroom : inK .i64 room) (hLl : L.length ≤ 9223372036854775807) (hL0 : SlOk w lb (L.flatMap acC)) (hLe : ∀ e, e ∈ L → ActOk w e) :
    Fun Try.prog 8 [.slice a S.length ca, .int .i64 room, .slice lb L.length lc] w (.bool true) := by
  refine Tri.enter (bx := []) (hp := []) Try.func8 rfl (by kernel_rfl) rfl (Own.nil w) ?_
  have hA : ∀ {bx : Bx} {hp : List Seg}, CallOb Try.prog ⟨w, kys [] []⟩ bx hp 18 [] (.bool true) := fun {_ _} w' hw' => Try.alive9_w w'
  have hG : ∀ {bx : Bx} {hp : List Seg}, CallOb Try.prog ⟨w, kys [] []⟩ bx hp 19 [.slice a S.length ca] (.bool (greatS S)) := fun {_ _} w' hw' => Try.great9_w S a ca w' hSl (hS.ext hw'.ext (by simp [kys])) hSn
  have hM : ∀ {bx : Bx} {hp : List Seg}, CallOb Try.prog ⟨w, kys [] []⟩ bx hp 21 [.slice a S.length ca] (.bool (mayS S)) := fun {_ _} w' hw' => Try.rMay_w9 S a ca w' hSl (hS.ext hw'.ext (by simp [kys])) hSn
  have hD : ∀ {bx : Bx} {hp : List Seg}, CallOb Try.prog ⟨w, kys [] []⟩ bx hp 38 [.slice a S.length ca] (.bool (mayS S)) := fun {_ _} w' hw' => Try.dMay_w S a ca w' hSl (hS.ext hw'.ext (by simp [kys])) (fun p hp => (hSn p hp).1)
  cases hg : greatS S with
  | true =>
    rw [hg] at hG
    refine At.run 100 true [false, true, true] [hC (.bool true), hC (.bool true)] rfl (by (repeat' apply And.intro) <;> first | exact hA | exact hG | exact True.intro | omega | rfl | (simp only [inK]; omega) | exact decide_eq_true (by omega) | exact decide_eq_false (by omega) | (simp; done) | (simp; omega) | (simp [Value.oneCell']; done) | exact i64s_one _ | exact AggOk.mk (by kernel_rfl) (by kernel_rfl)) ?_
    exact At.retK [] [] [] rfl rfl Try.func8 rfl trivial ⟨rfl, rfl, rfl⟩
  | false =>
  rw [hg] at hG
  obtain ⟨hS60, hS6⟩ := greatS_lens hg
  by_cases hL30 : 30 < L.length
  · refine At.run 100 true [false, false, true] [hC (.bool true), hC (.bool false)] rfl (by (repeat' apply And.intro) <;> first | exact hA | exact hG | exact True.intro | omega | rfl | (simp only [inK]; omega) | exact decide_eq_true (by omega) | exact decide_eq_false (by omega) | (simp; done) | (simp; omega) | (simp [Value.oneCell']; done) | exact i64s_one _ | exact AggOk.mk (by kernel_rfl) (by kernel_rfl)) ?_
    exact At.retK [] [] [] rfl rfl Try.func8 rfl trivial ⟨rfl, rfl, rfl⟩
  refine At.run 100 true [false, false, false] [hC (.bool true), hC (.bool false)] rfl (by (repeat' apply And.intro) <;> first | exact hA | exact hG | exact True.intro | omega | rfl | (simp only [inK]; omega) | exact decide_eq_true (by omega) | exact decide_eq_false (by omega) | (simp; done) | (simp; omega) | (simp [Value.oneCell']; done) | exact i64s_one _ | exact AggOk.mk (by kernel_rfl) (by kernel_rfl)) ?_
  refine At.step [] rfl rfl rfl rfl rfl trivial (OpOk.call rfl (fun w' hw' => Try.Of_w S a ca room w' hSl (hS.ext hw'.ext (by simp [kys])) (fun p hp => (hSn p hp).1) (fun p hp => (hSn p hp).2)) ?_)
  intro v bx' hp' hOf
  unfold Try.OfR at hOf
  by_cases hb : room < 0 ∨ 1048576 < room ∨ mayS S = false
  · rw [if_pos hb] at hOf
    obtain ⟨rfl, rfl, rfl⟩ := hOf
    by_cases h1 : room < 0
    · refine At.run 100 true [false, true, true, true] [hC (.bool (mayS S)), hC (.bool (mayS S))] rfl (by (repeat' apply And.intro) <;> first | exact hM | exact hD | exact True.intro | omega | rfl | (simp only [inK]; omega) | exact decide_eq_true (by omega) | exact decide_eq_false (by omega) | (simp; done) | (simp; omega) | (simp [Value.oneCell']; done) | exact i64s_one _ | exact AggOk.mk (by kernel_rfl) (by kernel_rfl)) ?_
      refine At.run 100 true [true] [] rfl (by (repeat' apply And.intro) <;> first | exact True.intro | omega | (simp only [inK]; omega) | (simp; done) | (simp; omega) | exact decide_eq_true (by omega) | exact decide_eq_false (by omega) | rfl | (simp [Value.oneCell']; done) | exact i64s_one _ | exact AggOk.mk (by kernel_rfl) (by kernel_rfl)) ?_
      exact At.retK [] [] [] rfl rfl Try.func8 rfl trivial ⟨rfl, rfl, rfl⟩
    · by_cases h2 : 1048576 < room
      · refine At.run 100 true [false, false, true, true] [hC (.bool (mayS S)), hC (.bool (mayS S))] rfl (by (repeat' apply And.intro) <;> first | exact hM | exact hD | exact True.intro | omega | rfl | (simp only [inK]; omega) | exact decide_eq_true (by omega) | exact decide_eq_false (by omega) | (simp; done) | (simp; omega) | (simp [Value.oneCell']; done) | exact i64s_one _ | exact AggOk.mk (by kernel_rfl) (by kernel_rfl)) ?_
        refine At.run 100 true [true] [] rfl (by (repeat' apply And.intro) <;> first | exact True.intro | omega | (simp only [inK]; omega) | (simp; done) | (simp; omega) | exact decide_eq_true (by omega) | exact decide_eq_false (by omega) | rfl | (simp [Value.oneCell']; done) | exact i64s_one _ | exact AggOk.mk (by kernel_rfl) (by kernel_rfl)) ?_
        exact At.retK [] [] [] rfl rfl Try.func8 rfl trivial ⟨rfl, rfl, rfl⟩
      · have hm : mayS S = false := by rcases hb with h | h | h <;> first | exact h | omega
        rw [hm] at hM hD
        refine At.run 100 true [false, false, false, true] [hC (.bool false), hC (.bool false), hC (.bool false)] rfl (by (repeat' apply And.intro) <;> first | exact hM | exact hD | exact True.intro | omega | rfl | (simp only [inK]; omega) | exact decide_eq_true (by omega) | exact decide_eq_false (by omega) | (simp; done) | (simp; omega) | (simp [Value.oneCell']; done) | exact i64s_one _ | exact AggOk.mk (by kernel_rfl) (by kernel_rfl)) ?_
        refine At.run 100 true [true] [] rfl (by (repeat' apply And.intro) <;> first | exact True.intro | omega | (simp only [inK]; omega) | (simp; done) | (simp; omega) | exact decide_eq_true (by omega) | exact decide_eq_false (by omega) | rfl | (simp [Value.oneCell']; done) | exact i64s_one _ | exact AggOk.mk (by kernel_rfl) (by kernel_rfl)) ?_
        exact At.retK [] [] [] rfl rfl Try.func8 rfl trivial ⟨rfl, rfl, rfl⟩
  rw [if_neg hb] at hOf
  have hm : mayS S = true := by
    cases h : mayS S with
    | true => rfl
    | false => exact absurd (.inr (.inr h)) hb
  obtain ⟨r, rfl⟩ : ∃ k : Nat, room = k := ⟨room.toNat, by omega⟩
  have hr : r ≤ 1048576 := by omega
  rw [hm] at hM hD
  obtain ⟨hS1, hS2, hS3⟩ := mayS_iff.1 hm
  have hUs : ∀ {bx : Bx} {hp : List Seg}, CallOb Try.prog ⟨w, kys [] []⟩ bx hp 39 [.slice a S.length ca] (.int .i64 (sumB S)) := fun {_ _} w' hw' => Try.rUsed_w S a ca w' hSl (hS.ext hw'.ext (by simp [kys])) (by omega)
  by_cases hfu : r < sumB S
  · rw [if_pos (by omega)] at hOf
    obtain ⟨rfl, rfl, rfl⟩ := hOf
    refine At.run 100 true [false, false, false, false, true] [hC (.bool true), hC (.bool true), hC (.bool true), hC (.int .i64 (sumB S))] rfl (by (repeat' apply And.intro) <;> first | exact hM | exact hD | exact hUs | exact True.intro | omega | rfl | (simp only [inK]; omega) | exact decide_eq_true (by omega) | exact decide_eq_false (by omega) | (simp; done) | (simp; omega) | (simp [Value.oneCell']; done) | exact i64s_one _ | exact AggOk.mk (by kernel_rfl) (by kernel_rfl)) ?_
    refine At.run 100 true [true] [] rfl (by (repeat' apply And.intro) <;> first | exact True.intro | omega | (simp only [inK]; omega) | (simp; done) | (simp; omega) | exact decide_eq_true (by omega) | exact decide_eq_false (by omega) | rfl | (simp [Value.oneCell']; done) | exact i64s_one _ | exact AggOk.mk (by kernel_rfl) (by kernel_rfl)) ?_
    exact At.retK [] [] [] rfl rfl Try.func8 rfl trivial ⟨rfl, rfl, rfl⟩
  rw [if_neg (by omega), Int.toNat_natCast] at hOf
  obtain ⟨d, bs, bk, FS, FK, rfl, rfl, rfl, hFS, hFK⟩ := hOf
  have hfokS : FOK S := fun p hp => ⟨List.length_pos_iff.2 (hS2 p hp).2, by have := sumB_mem hp; omega⟩
  have hdS : (S.map (·.1)).Nodup := risN_nodup hS3
  have hoS : ordN (nbs FS) = S := by rw [hFS]; exact ordN_of_perm hS3 (List.Perm.refl _)
  have hoK : ordN (nbs FK) = S := ordN_of_perm hS3 hFK
  have hinv : PInv r 0 FS FK [] := PInv.calm hr (by rw [hFS]; exact hdS) (by rw [hFS]; exact hFK) (by rw [hFS]; exact hfokS) (by rw [hFS]; omega) (by
    have : FS.length = S.length := by rw [← hFS, nbs_len]
    omega)
  refine At.run 100 true [false, false, false, false, false, false, false] [hC (.bool true), hC (.bool true), hC (.bool true), hC (.int .i64 (sumB S))] rfl (by (repeat' apply And.intro) <;> first | exact hM | exact hD | exact hUs | exact True.intro | omega | rfl | (simp only [inK]; omega) | exact decide_eq_true (by omega) | exact decide_eq_false (by omega) | (simp; done) | (simp; omega) | (simp [Value.oneCell']; done) | exact i64s_one _ | exact AggOk.mk (by kernel_rfl) (by kernel_rfl)) ?_
  refine At.step [] rfl rfl rfl rfl rfl trivial (OpOk.alloc (cs := [.slice none 0 0, .slice none 0 0, .slice none 0 0, .int .i64 0]) rfl (by kernel_rfl) fun b9 hb9 => ?_)
  refine At.run 100 true [] [hB 0] rfl (by (repeat' apply And.intro) <;> first | exact one_of rfl | exact True.intro | omega | rfl | (simp only [inK]; omega) | exact decide_eq_true (by omega) | exact decide_eq_false (by omega) | (simp; done) | (simp; omega) | (simp [Value.oneCell']; done) | exact i64s_one _ | exact AggOk.mk (by kernel_rfl) (by kernel_rfl)) ?_
  refine At.nilRow 119 2 ?_
  refine At.reshape (fun w' hw' => WOk.nilBoxes hw') ?_
  refine At.reshape (fun w' hw' => WOk.freeze0 hw') ?_
  refine At.order [] [0, 3, 2, 3, 4] rfl rfl ?_
  have q0 : PlSt ⟨w, kys [] []⟩ r 0 := ⟨FS, FK, [], none, 0, bs, bk, a, a, none, ca, ca, 0, [], hinv, by rw [hoS]; exact Fz.base rfl hS, by rw [hoK]; exact Fz.base rfl hS, Fz.nil⟩
  refine At.loop (n := L.length) (env0 := [(0, .slice a S.length ca), (1, .int .i64 r), (2, .slice lb L.length lc), (7, .pointer (some ⟨d, 0, none⟩)), (9, .pointer (some ⟨b9, 0, none⟩)), (10, .int .i64 0)]) (fun m env bx hp => ∃ (i : Nat) (q : PlSt ⟨w, kys [] []⟩ r i), m = L.length - i ∧ i ≤ L.length ∧
    env = [(0, .slice a S.length ca), (1, .int .i64 r), (2, .slice lb L.length lc), (7, .pointer (some ⟨d, 0, none⟩)), (9, .pointer (some ⟨b9, 0, none⟩)), (10, .int .i64 i)] ∧ bx = [(b9, 76, q.x), (d, 112, q.dk)] ∧ hp = Try.plHp q) rfl
    ⟨0, ⟨FS, FK, [], none, 0, bs, bk, a, a, none, ca, ca, 0, [], hinv, by rw [hoS]; exact Fz.base rfl hS, by rw [hoK]; exact Fz.base rfl hS, Fz.nil⟩, by simp, by omega, rfl, by simp only [PlSt.x, PlSt.dk, hoS, hoK]; rfl, rfl⟩ ⟨rfl, rfl, rfl, rfl, rfl, rfl, trivial⟩ ?_
  clear q0 hinv hoS hoK hFS hFK
  clear FS FK bs bk
  rintro m env bx hp ⟨i, q, rfl, hi, rfl, rfl, rfl⟩ ih
  obtain ⟨FS, FK, W, a1, pc, bs, bk, aS, aK, aP, cS, cK, cP, ex, inv, fS, fK, fP⟩ := q
  dsimp only [PlSt.x, PlSt.dk, Try.plHp]
  by_cases hlt : i < L.length
  · obtain ⟨e, he⟩ : ∃ e, L[i]? = some e := ⟨_, List.getElem?_eq_getElem hlt⟩
    have hLne : L.flatMap acC ≠ [] := by
      intro h
      have h1 := flat_len (f := acC) (sz := 5) (l := L) (fun _ _ => rfl)
      rw [h] at h1; simp only [List.length_nil] at h1; omega
    obtain ⟨g, o, rfl, hc⟩ := hL0.get hLne
    have hek := hLe e (List.mem_of_getElem? he)
    have hmg : g ∉ (⟨w, kys [] []⟩ : Base).mods := by simp [kys]
    have rE : ∀ {bx : Bx} {hp : List Seg}, RdW ⟨w, kys [] []⟩ bx hp g (o + (i : Int).toNat * 5) (acC e) := fun {_ _} => RdW.sl hc hmg (i * 5) (by omega) (fun j u hu => flat_get (f := acC) (sz := 5) (fun _ _ => rfl) he j u hu)
    refine At.run 100 true [true] [hR (acC e)] rfl (by (repeat' apply And.intro) <;> first | exact rE | exact True.intro | omega | rfl | (simp only [inK]; omega) | exact decide_eq_true (by omega) | exact decide_eq_false (by omega) | (simp; done) | (simp; omega) | (simp [Value.oneCell']; done) | exact i64s_one _ | exact AggOk.mk (by kernel_rfl) (by kernel_rfl)) ?_
    refine At.step [] rfl rfl rfl rfl rfl trivial (OpOk.alloc (cs := [.int .u8 0, str [], .int .i64 0, str [], .slice none 0 0]) rfl (by kernel_rfl) fun b11 hb11 => ?_)
    have hsl : (bl ⟨e.s.toArray⟩).length = e.s.length := by rw [bl_of]
    have hnl : (bl ⟨e.name.toArray⟩).length = e.name.length := by rw [bl_of]
    have hes := hek.s
    have hen := hek.n
    have hekl := hek.kl
    have hek0 := hek.k
    by_cases hs3 : 300 < e.s.length
    · refine At.run 100 true [true, true, true] [hB 0, hB 0] rfl (by (repeat' apply And.intro) <;> first | exact one_of rfl | exact True.intro | omega | rfl | (simp only [inK]; omega) | exact decide_eq_true (by omega) | exact decide_eq_false (by omega) | (simp; done) | (simp; omega) | (simp [Value.oneCell']; done) | exact i64s_one _ | exact AggOk.mk (by kernel_rfl) (by kernel_rfl)) ?_
      refine At.keep [] [] rfl ?_
      exact At.ret [] rfl Try.func8 rfl trivial ⟨rfl, rfl, rfl⟩
    by_cases hn1 : 100 < e.name.length
    · refine At.run 100 true [false, true, true] [hB 0, hB 0, hB 0] rfl (by (repeat' apply And.intro) <;> first | exact one_of rfl | exact True.intro | omega | rfl | (simp only [inK]; omega) | exact decide_eq_true (by omega) | exact decide_eq_false (by omega) | (simp; done) | (simp; omega) | (simp [Value.oneCell']; done) | exact i64s_one _ | exact AggOk.mk (by kernel_rfl) (by kernel_rfl)) ?_
      refine At.keep [] [] rfl ?_
      exact At.ret [] rfl Try.func8 rfl trivial ⟨rfl, rfl, rfl⟩
    by_cases hk1 : 100 < e.keep.length
    · refine At.run 100 true [false, false, true] [hB 0, hB 0, hB 0, hB 0] rfl (by (repeat' apply And.intro) <;> first | exact one_of rfl | exact True.intro | omega | rfl | (simp only [inK]; omega) | exact decide_eq_true (by omega) | exact decide_eq_false (by omega) | (simp; done) | (simp; omega) | (simp [Value.oneCell']; done) | exact i64s_one _ | exact AggOk.mk (by kernel_rfl) (by kernel_rfl)) ?_
      refine At.keep [] [] rfl ?_
      exact At.ret [] rfl Try.func8 rfl trivial ⟨rfl, rfl, rfl⟩
    refine At.run 100 true [false, false, false] [hB 0, hB 0, hB 0, hB 0, hB 0] rfl (by (repeat' apply And.intro) <;> first | exact one_of rfl | exact True.intro | omega | rfl | (simp only [inK]; omega) | exact decide_eq_true (by omega) | exact decide_eq_false (by omega) | (simp; done) | (simp; omega) | (simp [Value.oneCell']; done) | exact i64s_one _ | exact AggOk.mk (by kernel_rfl) (by kernel_rfl)) ?_
    refine At.cutS (ι := PlSt ⟨w, kys [] []⟩ r (i + 1) × Int) ⟨0, [0, 1, 1, 1, 1, 0, 0, 1, 0, 0, 1, 0, 1, 1, 1, 1, 1, 1, 1, 1, 1], []⟩ (fun q => [(0, .slice a S.length ca), (1, .int .i64 r), (2, .slice (some ⟨g, o, none⟩) L.length lc), (7, .pointer (some ⟨d, 0, none⟩)), (9, .pointer (some ⟨b9, 0, none⟩)), (10, .int .i64 i), (11, .pointer (some ⟨b11, 0, none⟩)), (12, .int .i64 q.2), (13, .int .i64 q.2)]) (fun q => [(b11, 46, acC e), (b9, 76, q.1.x), (d, 112, q.1.dk)]) (fun q => Try.plHp q.1) ?_ (fun hz => ?_)
    · clear inv fS fK fP
      clear FS FK W a1 pc bs bk aS aK aP cS cK cP ex
      rintro ⟨q, z⟩
      have ih := ih _ _ _ _ (by omega) ⟨i + 1, q, rfl, by omega, rfl, rfl, rfl⟩
      obtain ⟨FS, FK, W, a1, pc, bs, bk, aS, aK, aP, cS, cK, cP, ex, inv, fS, fK, fP⟩ := q
      dsimp only [PlSt.x, PlSt.dk, Try.plHp] at ih ⊢
      have hSm : CallOb Try.prog ⟨w, kys [] []⟩ [(b11, 46, acC e), (b9, 76, rdV (.slice aS (ordN (nbs FS)).length cS) (.slice aK (ordN (nbs FK)).length cK) (.slice aP W.length cP) r), (d, 112, dkV r bs (.map (some bk)) (sv a1 W.length pc))] [Seg.files 5 bs FS, Seg.row a1 119 2 W.length pc (W.flatMap Try.wrC), Try.boxesS W, Seg.files 5 bk FK, Seg.pack [] ex] 46 [.pointer (some ⟨d, 0, none⟩), .agg ⟨rdV (.slice aS (ordN (nbs FS)).length cS) (.slice aK (ordN (nbs FK)).length cK) (.slice aP W.length cP) r⟩] (.bool true) := fun w' hw' =>
        Try.lSame_w d r bs bk W.length pc cS cK cP (svA a1) aS aK aP FS FK w' (hw'.bx ((d, 112, dkV r bs (.map (some bk)) (sv a1 W.length pc))) (by simp)) (hw'.files (by simp)) (hw'.files (by simp)) (fS.at hw' (by simp)) (fK.at hw' (by simp)) (by have := inv.lS; omega) (by have := inv.lK; omega) inv.hr inv.used (by have := inv.wn; omega)
      have hR1 : CallOb Try.prog ⟨w, kys [] []⟩ [(b11, 46, acC e), (b9, 76, rdV (.slice aS (ordN (nbs FS)).length cS) (.slice aK (ordN (nbs FK)).length cK) (.slice aP W.length cP) r), (d, 112, dkV r bs (.map (some bk)) (sv a1 W.length pc))] [Seg.files 5 bs FS, Seg.row a1 119 2 W.length pc (W.flatMap Try.wrC), Try.boxesS W, Seg.files 5 bk FK, Seg.pack [] ex] 23 [.pointer (some ⟨d, 0, none⟩), str e.name] (str (bytesF FS e.name)) := fun w' hw' =>
        Try.DRead_w d r bs (.map (some bk)) (sv a1 W.length pc) FS e.name w' (hw'.bx ((d, 112, dkV r bs (.map (some bk)) (sv a1 W.length pc))) (by simp)) (hw'.files (by simp)) (fun f hf => (inv.fs _ (mem_nbs hf)).1)
      have hR2 : CallOb Try.prog ⟨w, kys [] []⟩ [(b11, 46, acC e), (b9, 76, rdV (.slice aS (ordN (nbs FS)).length cS) (.slice aK (ordN (nbs FK)).length cK) (.slice aP W.length cP) r), (d, 112, dkV r bs (.map (some bk)) (sv a1 W.length pc))] [Seg.files 5 bs FS, Seg.row a1 119 2 W.length pc (W.flatMap Try.wrC), Try.boxesS W, Seg.files 5 bk FK, Seg.pack [] ex] 47 [.slice aS (ordN (nbs FS)).length cS, str e.name] (str (bytesF FS e.name)) := fun w' hw' => by
        have := Try.rRead_w (ordN (nbs FS)) e.name aS cS w' (by rw [ordN_len inv.dS, nbs_len]; have := inv.lS; omega) (fS.at hw' (by simp))
        rw [read_ord inv.dS, readN_nbs] at this
        exact this
      refine At.quiet true [false, false] [hB 1, hC (.bool true), hB 0, hC (str (bytesF FS e.name)), hB 1, hB 0, hC (str (bytesF FS e.name))] ⟨by kernel_rfl, by kernel_rfl, rfl, rfl, rfl⟩ rfl rfl rfl (by (repeat' apply And.intro) <;> first | exact hSm | exact hR1 | exact hR2 | exact True.intro | omega | rfl | (simp only [inK]; omega) | exact decide_eq_true (by omega) | exact decide_eq_false (by omega) | (simp; done) | (simp; omega) | (simp [Value.oneCell']; done) | exact i64s_one _ | exact AggOk.mk (by kernel_rfl) (by kernel_rfl)) ?_
      refine At.run 100 true [false] [] rfl (by (repeat' apply And.intro) <;> first | exact True.intro | omega | (simp only [inK]; omega) | (simp; done) | (simp; omega) | exact decide_eq_true (by omega) | exact decide_eq_false (by omega) | rfl | (simp [Value.oneCell']; done) | exact i64s_one _ | exact AggOk.mk (by kernel_rfl) (by kernel_rfl)) ?_
      refine At.keep [false, true, true] [true, true, true, true, true] rfl ?_
      exact At.weak ih ⟨rfl, rfl, rfl, rfl, rfl, some_int_eq (by omega), trivial⟩
    · exact At.weak (Try.plCases_w inv fS fK fP hek hs3 hn1 hk1 (by omega) hz) ⟨rfl, rfl, rfl, rfl, rfl, rfl, rfl, rfl, rfl, rfl, rfl, trivial⟩
  · refine At.run 100 true [false] [] rfl (by (repeat' apply And.intro) <;> first | exact True.intro | omega | (simp only [inK]; omega) | (simp; done) | (simp; omega) | exact decide_eq_true (by omega) | exact decide_eq_false (by omega) | rfl | (simp [Value.oneCell']; done) | exact i64s_one _ | exact AggOk.mk (by kernel_rfl) (by kernel_rfl)) ?_
    refine At.keep [] [] rfl ?_
    exact At.ret [] rfl Try.func8 rfl trivial ⟨rfl, rfl, rfl⟩

end Go.Proofs

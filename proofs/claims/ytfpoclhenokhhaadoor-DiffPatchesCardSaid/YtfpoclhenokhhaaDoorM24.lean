/-
  Walks of layer 14's document: a change of list 4 set.
-/
import Derived.Test.YtfpoclhenokhhaaDoorM23
import Derived.Test.YtfpoclhenokhhaaDoorM21
import Derived.Test.YtfpoclhenokhhaaDoorM9
/-
  Walks of layer 14's document: a change of list 4 set.
-/
namespace Go.Proofs
open Go Go.Eng
set_option maxRecDepth 100000
set_option maxHeartbeats 4000000
attribute [local irreducible] Tri

theorem Tryd.set4n_w (b : Bk) (A : BkA) (K B : Int) (was : List Int) (wa : Option Addr) (wc : Nat) (v0 : Int) (ia : Option Addr) (ic : Nat) (w : World) (hi : BkIn b) (ho : BkOk w b A) (hia : SlOk w ia (i64s [v0])) :
    Tri Tryd.prog 38 [.agg ⟨bkV b A⟩, .agg ⟨chC ⟨(4, K, B), was, wa, wc, [v0], ia, ic⟩⟩] w [] (Tryd.SetQ b A { b with R := insK [K, v0] false (outK K b.R) }) := by
  obtain ⟨a1, a2, a3, a4, c1, c2, c3, c4⟩ := A
  refine Tri.enter (bx := []) (hp := []) Tryd.func38 rfl (by kernel_rfl) rfl (Own.nil w) ?_
  have hm0 : ∀ k, k ∉ (⟨w, kys [] []⟩ : Base).mods := by simp [kys]
  refine At.run 100 true [] [] rfl trivial ?_
  refine At.step [] rfl rfl rfl rfl rfl trivial (OpOk.box rfl rfl rfl fun bq hbq => ?_)
  refine At.step [] rfl rfl rfl rfl rfl trivial (OpOk.box rfl rfl rfl fun b3 hb3 => ?_)
  refine At.step [] rfl rfl rfl rfl rfl trivial (OpOk.alloc (cs := [.slice none 0 0, .slice none 0 0, .slice none 0 0, .slice none 0 0, .int .i64 0]) rfl (by kernel_rfl) fun b4 hb4 => ?_)
  have hal : SlOk w a4 (b.R.flatMap i64s) := ho.h4
  have l1 := hi.l4
  obtain ⟨gv, ov, rfl, hv⟩ := hia.get (by simp [i64s])
  have rv0 : ∀ {bx : Bx} {hp : List Seg}, RdW ⟨w, kys [] []⟩ bx hp gv (ov + (0 : Int).toNat * 1) [.int .i64 v0] := fun {_ _} => RdW.i64At hv (hm0 _) (j := 0) rfl (by simp)
  refine At.run 100 true [false, false, false, false, true] [hB 1, hB 1] rfl (by (repeat' apply And.intro) <;> first | (simp; done) | exact True.intro | omega | rfl | (simp only [inK]; omega) | exact decide_eq_true (by omega) | exact decide_eq_false (by omega) | (simp; done) | (simp; omega) | (simp [Value.oneCell']; done) | exact i64s_one _ | exact AggOk.mk (by kernel_rfl) (by kernel_rfl)) ?_
  refine At.nilRow 50 2 ?_
  refine At.loop (n := b.R.length) (env0 := [(2, .pointer (some ⟨bq, 0, none⟩)), (3, .pointer (some ⟨b3, 0, none⟩)), (4, .pointer (some ⟨b4, 0, none⟩)), (5, .slice (some ⟨gv, ov, none⟩) 1 ic), (8, sv none ([] : List (List Int)).length 0), (9, .int .i64 0)]) (fun m env bx hp => ∃ (i : Nat) (out : List (List Int)) (g : Option Nat) (c : Nat), m = b.R.length - i ∧ i ≤ b.R.length ∧ out.length ≤ i ∧ outK K b.R = out ++ outK K (b.R.drop i) ∧
    env = [(2, .pointer (some ⟨bq, 0, none⟩)), (3, .pointer (some ⟨b3, 0, none⟩)), (4, .pointer (some ⟨b4, 0, none⟩)), (5, .slice (some ⟨gv, ov, none⟩) 1 ic), (8, sv g out.length c), (9, .int .i64 i)] ∧ bx = [(b4, 27, [.slice none 0 0, .slice none 0 0, .slice none 0 0, .slice none 0 0, .int .i64 0]), (b3, 46, chC ⟨(4, K, B), was, wa, wc, [v0], some ⟨gv, ov, none⟩, ic⟩), (bq, 27, bkV b ⟨a1, a2, a3, a4, c1, c2, c3, c4⟩)] ∧ hp = [Seg.row g 50 2 out.length c (out.flatMap i64s)]) rfl ⟨0, [], none, 0, by simp, by omega, by simp, rfl, rfl, rfl, rfl⟩ ⟨rfl, rfl, rfl, rfl, rfl, rfl, trivial⟩ ?_
  rintro m env bx hp ⟨i, out, g, c, rfl, hi2, hol, hpre, rfl, rfl, rfl⟩ ih
  by_cases hlt : i < b.R.length
  · obtain ⟨z, hz⟩ : ∃ z, b.R[i]? = some z := ⟨_, List.getElem?_eq_getElem hlt⟩
    obtain ⟨hzl, hzi⟩ := hi.r4 z (List.mem_of_getElem? hz)
    have hne := slNe (sz := 2) (by omega) (fun x hx => (hi.r4 x hx).1) hz
    obtain ⟨gg, o, rfl, hc⟩ := hal.get hne
    obtain ⟨z0, z1, rfl⟩ := len2 hzl
    have rE : ∀ {bx : Bx} {hp : List Seg}, RdW ⟨w, kys [] []⟩ bx hp gg (o + (i : Int).toNat * 2) (i64s [z0, z1]) := fun {_ _} => RdW.sl hc (hm0 _) (i * 2) (by omega) (fun j u hu => flat_rec (fun x hx => (hi.r4 x hx).1) hz j u hu)
    rw [outK_drop hz] at hpre
    refine At.run 100 true [true] [hB 2] rfl (by (repeat' apply And.intro) <;> first | exact True.intro | omega | (simp only [inK]; omega) | (simp; done) | (simp; omega) | exact decide_eq_true (by omega) | exact decide_eq_false (by omega) | rfl | (simp [Value.oneCell']; done) | exact i64s_one _ | exact AggOk.mk (by kernel_rfl) (by kernel_rfl)) ?_
    refine At.quiet true [] [hB 2, hR [.int .i64 z0], hB 1] ⟨by kernel_rfl, by kernel_rfl, rfl, rfl, rfl⟩ rfl rfl rfl (by (repeat' apply And.intro) <;> first | exact RdW.at rE 0 rfl | exact True.intro | omega | rfl | (simp only [inK]; omega) | exact decide_eq_true (by omega) | exact decide_eq_false (by omega) | (simp; done) | (simp; omega) | (simp [Value.oneCell']; done) | exact i64s_one _ | exact AggOk.mk (by kernel_rfl) (by kernel_rfl)) ?_
    by_cases he : z0 = K
    · rw [if_pos (by exact he), List.nil_append] at hpre
      refine At.run 100 true [false] [] rfl (by (repeat' apply And.intro) <;> first | (simp [he]; done) | exact True.intro | omega | rfl | (simp only [inK]; omega) | exact decide_eq_true (by omega) | exact decide_eq_false (by omega) | (simp; done) | (simp; omega) | (simp [Value.oneCell']; done) | exact i64s_one _ | exact AggOk.mk (by kernel_rfl) (by kernel_rfl)) ?_
      exact At.weak (ih _ _ _ _ (by omega) ⟨i + 1, out, g, c, rfl, by omega, by omega, hpre, rfl, rfl, rfl⟩) ⟨rfl, rfl, rfl, rfl, rfl, some_int_eq (by omega), trivial⟩
    · rw [if_neg (by exact he)] at hpre
      refine At.run 100 true [true] [hB 2, hR (i64s [z0, z1])] rfl (by (repeat' apply And.intro) <;> first | exact rE | (simp [he]; done) | exact True.intro | omega | rfl | (simp only [inK]; omega) | exact decide_eq_true (by omega) | exact decide_eq_false (by omega) | (simp; done) | (simp; omega) | (simp [Value.oneCell']; done) | exact i64s_one _ | exact AggOk.mk (by kernel_rfl) (by kernel_rfl)) ?_
      refine At.append1 0 2 16 rfl rfl rfl rfl rfl rfl rfl rfl rfl trivial (fun _ => rfl) trivial rfl rfl rfl rfl rfl rfl rfl rfl (fun _ => rfl) (i64s_one [z0, z1]) (by omega) (by omega) (fun bz g2 cc2 => ?_)
      refine At.run 100 true [] [] rfl (by (repeat' apply And.intro) <;> first | exact True.intro | omega | (simp only [inK]; omega) | (simp; done) | (simp; omega) | exact decide_eq_true (by omega) | exact decide_eq_false (by omega) | rfl | (simp [Value.oneCell']; done) | exact i64s_one _ | exact AggOk.mk (by kernel_rfl) (by kernel_rfl)) ?_
      have ih := ih _ _ _ _ (by omega) ⟨i + 1, out ++ [[z0, z1]], g2, cc2, rfl, by omega, by simp; omega, by rw [hpre]; simp, rfl, rfl, rfl⟩
      simp only [List.length_append, List.length_singleton, List.flatMap_append, List.flatMap_singleton] at ih
      exact At.weak ih ⟨rfl, rfl, rfl, rfl, rfl, some_int_eq (by omega), trivial⟩
  · rw [List.drop_of_length_le (by omega)] at hpre
    clear ih
    have hpre : outK K b.R = out := hpre.trans (List.append_nil _)
    rw [hpre]
    have hol2 : out.length ≤ 1048576 := by omega
    have hib : BkIn { b with R := out } := ⟨hi.r1, hi.r2, hi.r3, (by rw [← hpre]; exact outK_recs hi.r4), hi.l1, hi.l2, hi.l3, hol2, hi.cc⟩
    refine At.run 100 true [false, true] [hB 2, hB 2, hB 1] rfl (by (repeat' apply And.intro) <;> first | (simp; done) | exact True.intro | omega | rfl | (simp only [inK]; omega) | exact decide_eq_true (by omega) | exact decide_eq_false (by omega) | (simp; done) | (simp; omega) | (simp [Value.oneCell']; done) | exact i64s_one _ | exact AggOk.mk (by kernel_rfl) (by kernel_rfl)) ?_
    refine At.draw 9 rfl rfl rfl rfl ?_
    refine AtD.lex 0 7 2 true [] [hB 2, hB 1, hR [.int .i64 v0]] ⟨by kernel_rfl, by kernel_rfl, by kernel_rfl, rfl, by kernel_rfl, by kernel_rfl⟩ rfl rfl rfl (by (repeat' apply And.intro) <;> first | exact rv0 | exact True.intro | omega | rfl | (simp only [inK]; omega) | exact decide_eq_true (by omega) | exact decide_eq_false (by omega) | (simp; done) | (simp; omega) | (simp [Value.oneCell']; done) | exact i64s_one _ | exact AggOk.mk (by kernel_rfl) (by kernel_rfl)) (fun h => by cases h) ?_
    refine AtD.fork1 7 (by kernel_rfl) (StepD.by [] rfl rfl rfl rfl trivial (OpOk.call rfl (fun w' hw' => Tryd.SetRate_w { b with R := out } ⟨a1, a2, a3, svA g, c1, c2, c3, c⟩ [K, v0] w' hib rfl ⟨(ho.h1.ext hw'.ext (by simp [kys])), (ho.h2.ext hw'.ext (by simp [kys])), (ho.h3.ext hw'.ext (by simp [kys])), SlOk.row (hw'.hp (Seg.row g 50 2 out.length c (out.flatMap i64s)) (by simp))⟩) ?_))
    rintro v bx' hp' ⟨rfl, g2, c5, rfl, rfl⟩
    refine AtD.fork1 8 (by kernel_rfl) (StepD.by0 [] rfl rfl rfl trivial (OpOk.one true [] [hB 2] rfl (by (repeat' apply And.intro) <;> first | exact cells5 rfl rfl rfl rfl rfl | exact True.intro | omega | rfl | (simp only [inK]; omega) | exact decide_eq_true (by omega) | exact decide_eq_false (by omega) | (simp; done) | (simp; omega) | (simp [Value.oneCell']; done) | exact i64s_one _ | exact AggOk.mk (by kernel_rfl) (by kernel_rfl)) ?_))
    refine AtD.done (by kernel_rfl) ?_
    refine At.run 100 true [] [hB 2, hB 0] rfl (by (repeat' apply And.intro) <;> first | exact cells5 rfl rfl rfl rfl rfl | exact True.intro | omega | rfl | (simp only [inK]; omega) | exact decide_eq_true (by omega) | exact decide_eq_false (by omega) | (simp; done) | (simp; omega) | (simp [Value.oneCell']; done) | exact i64s_one _ | exact AggOk.mk (by kernel_rfl) (by kernel_rfl)) ?_
    refine At.reshape (fun w' hw' => WOk.freeze1 hw') ?_
    exact At.retK [] [true] [hB 0] rfl rfl Tryd.func38 rfl ⟨rfl, trivial⟩ ⟨rfl, ⟨a1, a2, a3, svA g2, c1, c2, c3, c5⟩, _, rfl, rfl, fun w' hx h => ⟨h.h1, h.h2, h.h3, SlOk.row (hx _ (List.mem_singleton.2 rfl))⟩⟩

theorem Tryd.set4e_w (b : Bk) (A : BkA) (K B : Int) (was : List Int) (wa : Option Addr) (wc : Nat) (ia : Option Addr) (ic : Nat) (w : World) (hi : BkIn b) (ho : BkOk w b A) :
    Tri Tryd.prog 38 [.agg ⟨bkV b A⟩, .agg ⟨chC ⟨(4, K, B), was, wa, wc, [], ia, ic⟩⟩] w [] (Tryd.SetQ b A { b with R := outK K b.R }) := by
  obtain ⟨a1, a2, a3, a4, c1, c2, c3, c4⟩ := A
  refine Tri.enter (bx := []) (hp := []) Tryd.func38 rfl (by kernel_rfl) rfl (Own.nil w) ?_
  have hm0 : ∀ k, k ∉ (⟨w, kys [] []⟩ : Base).mods := by simp [kys]
  refine At.run 100 true [] [] rfl trivial ?_
  refine At.step [] rfl rfl rfl rfl rfl trivial (OpOk.box rfl rfl rfl fun bq hbq => ?_)
  refine At.step [] rfl rfl rfl rfl rfl trivial (OpOk.box rfl rfl rfl fun b3 hb3 => ?_)
  refine At.step [] rfl rfl rfl rfl rfl trivial (OpOk.alloc (cs := [.slice none 0 0, .slice none 0 0, .slice none 0 0, .slice none 0 0, .int .i64 0]) rfl (by kernel_rfl) fun b4 hb4 => ?_)
  have hal : SlOk w a4 (b.R.flatMap i64s) := ho.h4
  have l1 := hi.l4
  refine At.run 100 true [true] [hB 1] rfl (by (repeat' apply And.intro) <;> first | (simp; done) | exact True.intro | omega | rfl | (simp only [inK]; omega) | exact decide_eq_true (by omega) | exact decide_eq_false (by omega) | (simp; done) | (simp; omega) | (simp [Value.oneCell']; done) | exact i64s_one _ | exact AggOk.mk (by kernel_rfl) (by kernel_rfl)) ?_
  refine At.step [] rfl rfl rfl rfl rfl trivial (OpOk.makeSlice (sz := 1) (by_ := 8) (xs := i64s zer5) 5 rfl rfl rfl rfl rfl rfl (by omega) (by omega) (by omega) (by simp [i64s, zer5]) zer_at (by decide) (fun gz => ?_))
  refine At.run 100 true [false, false, false, true] [hB 1] rfl (by (repeat' apply And.intro) <;> first | exact True.intro | omega | (simp only [inK]; omega) | (simp; done) | (simp; omega) | exact decide_eq_true (by omega) | exact decide_eq_false (by omega) | rfl | (simp [Value.oneCell']; done) | exact i64s_one _ | exact AggOk.mk (by kernel_rfl) (by kernel_rfl)) ?_
  refine At.nilRow 50 2 ?_
  refine At.loop (n := b.R.length) (env0 := [(2, .pointer (some ⟨bq, 0, none⟩)), (3, .pointer (some ⟨b3, 0, none⟩)), (4, .pointer (some ⟨b4, 0, none⟩)), (5, sv (some gz) 5 5), (8, sv none ([] : List (List Int)).length 0), (9, .int .i64 0)]) (fun m env bx hp => ∃ (i : Nat) (out : List (List Int)) (g : Option Nat) (c : Nat), m = b.R.length - i ∧ i ≤ b.R.length ∧ out.length ≤ i ∧ outK K b.R = out ++ outK K (b.R.drop i) ∧
    env = [(2, .pointer (some ⟨bq, 0, none⟩)), (3, .pointer (some ⟨b3, 0, none⟩)), (4, .pointer (some ⟨b4, 0, none⟩)), (5, sv (some gz) 5 5), (8, sv g out.length c), (9, .int .i64 i)] ∧ bx = [(b4, 27, [.slice none 0 0, .slice none 0 0, .slice none 0 0, .slice none 0 0, .int .i64 0]), (b3, 46, chC ⟨(4, K, B), was, wa, wc, [], ia, ic⟩), (bq, 27, bkV b ⟨a1, a2, a3, a4, c1, c2, c3, c4⟩)] ∧ hp = [Seg.row g 50 2 out.length c (out.flatMap i64s), Seg.row (some gz) 2 1 5 5 (i64s zer5)]) rfl ⟨0, [], none, 0, by simp, by omega, by simp, rfl, rfl, rfl, rfl⟩ ⟨rfl, rfl, rfl, rfl, rfl, rfl, trivial⟩ ?_
  rintro m env bx hp ⟨i, out, g, c, rfl, hi2, hol, hpre, rfl, rfl, rfl⟩ ih
  by_cases hlt : i < b.R.length
  · obtain ⟨z, hz⟩ : ∃ z, b.R[i]? = some z := ⟨_, List.getElem?_eq_getElem hlt⟩
    obtain ⟨hzl, hzi⟩ := hi.r4 z (List.mem_of_getElem? hz)
    have hne := slNe (sz := 2) (by omega) (fun x hx => (hi.r4 x hx).1) hz
    obtain ⟨gg, o, rfl, hc⟩ := hal.get hne
    obtain ⟨z0, z1, rfl⟩ := len2 hzl
    have rE : ∀ {bx : Bx} {hp : List Seg}, RdW ⟨w, kys [] []⟩ bx hp gg (o + (i : Int).toNat * 2) (i64s [z0, z1]) := fun {_ _} => RdW.sl hc (hm0 _) (i * 2) (by omega) (fun j u hu => flat_rec (fun x hx => (hi.r4 x hx).1) hz j u hu)
    rw [outK_drop hz] at hpre
    refine At.run 100 true [true] [hB 2] rfl (by (repeat' apply And.intro) <;> first | exact True.intro | omega | (simp only [inK]; omega) | (simp; done) | (simp; omega) | exact decide_eq_true (by omega) | exact decide_eq_false (by omega) | rfl | (simp [Value.oneCell']; done) | exact i64s_one _ | exact AggOk.mk (by kernel_rfl) (by kernel_rfl)) ?_
    refine At.quiet true [] [hB 2, hR [.int .i64 z0], hB 1] ⟨by kernel_rfl, by kernel_rfl, rfl, rfl, rfl⟩ rfl rfl rfl (by (repeat' apply And.intro) <;> first | exact RdW.at rE 0 rfl | exact True.intro | omega | rfl | (simp only [inK]; omega) | exact decide_eq_true (by omega) | exact decide_eq_false (by omega) | (simp; done) | (simp; omega) | (simp [Value.oneCell']; done) | exact i64s_one _ | exact AggOk.mk (by kernel_rfl) (by kernel_rfl)) ?_
    by_cases he : z0 = K
    · rw [if_pos (by exact he), List.nil_append] at hpre
      refine At.run 100 true [false] [] rfl (by (repeat' apply And.intro) <;> first | (simp [he]; done) | exact True.intro | omega | rfl | (simp only [inK]; omega) | exact decide_eq_true (by omega) | exact decide_eq_false (by omega) | (simp; done) | (simp; omega) | (simp [Value.oneCell']; done) | exact i64s_one _ | exact AggOk.mk (by kernel_rfl) (by kernel_rfl)) ?_
      exact At.weak (ih _ _ _ _ (by omega) ⟨i + 1, out, g, c, rfl, by omega, by omega, hpre, rfl, rfl, rfl⟩) ⟨rfl, rfl, rfl, rfl, rfl, some_int_eq (by omega), trivial⟩
    · rw [if_neg (by exact he)] at hpre
      refine At.run 100 true [true] [hB 2, hR (i64s [z0, z1])] rfl (by (repeat' apply And.intro) <;> first | exact rE | (simp [he]; done) | exact True.intro | omega | rfl | (simp only [inK]; omega) | exact decide_eq_true (by omega) | exact decide_eq_false (by omega) | (simp; done) | (simp; omega) | (simp [Value.oneCell']; done) | exact i64s_one _ | exact AggOk.mk (by kernel_rfl) (by kernel_rfl)) ?_
      refine At.append1 0 2 16 rfl rfl rfl rfl rfl rfl rfl rfl rfl trivial (fun _ => rfl) trivial rfl rfl rfl rfl rfl rfl rfl rfl (fun _ => rfl) (i64s_one [z0, z1]) (by omega) (by omega) (fun bz g2 cc2 => ?_)
      refine At.run 100 true [] [] rfl (by (repeat' apply And.intro) <;> first | exact True.intro | omega | (simp only [inK]; omega) | (simp; done) | (simp; omega) | exact decide_eq_true (by omega) | exact decide_eq_false (by omega) | rfl | (simp [Value.oneCell']; done) | exact i64s_one _ | exact AggOk.mk (by kernel_rfl) (by kernel_rfl)) ?_
      have ih := ih _ _ _ _ (by omega) ⟨i + 1, out ++ [[z0, z1]], g2, cc2, rfl, by omega, by simp; omega, by rw [hpre]; simp, rfl, rfl, rfl⟩
      simp only [List.length_append, List.length_singleton, List.flatMap_append, List.flatMap_singleton] at ih
      exact At.weak ih ⟨rfl, rfl, rfl, rfl, rfl, some_int_eq (by omega), trivial⟩
  · rw [List.drop_of_length_le (by omega)] at hpre
    clear ih
    have hpre : outK K b.R = out := hpre.trans (List.append_nil _)
    rw [hpre]
    refine At.run 100 true [false, false] [hB 2, hB 2, hB 1, hB 2, hB 0] rfl (by (repeat' apply And.intro) <;> first | exact cells5 rfl rfl rfl rfl rfl | (simp; done) | exact True.intro | omega | rfl | (simp only [inK]; omega) | exact decide_eq_true (by omega) | exact decide_eq_false (by omega) | (simp; done) | (simp; omega) | (simp [Value.oneCell']; done) | exact i64s_one _ | exact AggOk.mk (by kernel_rfl) (by kernel_rfl)) ?_
    refine At.reshape (fun w' hw' => WOk.freeze1 hw') ?_
    exact At.retK [] [true] [hB 0] rfl rfl Tryd.func38 rfl ⟨rfl, trivial⟩ ⟨rfl, ⟨a1, a2, a3, svA g, c1, c2, c3, c⟩, _, rfl, rfl, fun w' hx h => ⟨h.h1, h.h2, h.h3, SlOk.row (hx _ (List.mem_singleton.2 rfl))⟩⟩

end Go.Proofs

/-
  Walks of layer 14's document: changes of lists 2, 3 and 5 set.
-/
namespace Go.Proofs
open Go Go.Eng
set_option maxRecDepth 100000
set_option maxHeartbeats 4000000
attribute [local irreducible] Tri

theorem Tryd.set2n_w (b : Bk) (A : BkA) (K B : Int) (was : List Int) (wa : Option Addr) (wc : Nat) (v0 : Int) (ia : Option Addr) (ic : Nat) (w : World) (hi : BkIn b) (ho : BkOk w b A) (hia : SlOk w ia (i64s [v0])) :
    Tri Tryd.prog 38 [.agg ⟨bkV b A⟩, .agg ⟨chC ⟨(2, K, B), was, wa, wc, [v0], ia, ic⟩⟩] w [] (Tryd.SetQ b A { b with S := insS [K, B, v0] (decide (v0 = 0)) (insS [K, B, 0] true b.S), c := if v0 = 0 then -1 else b.c }) := by
  obtain ⟨a1, a2, a3, a4, c1, c2, c3, c4⟩ := A
  refine Tri.enter (bx := []) (hp := []) Tryd.func38 rfl (by kernel_rfl) rfl (Own.nil w) ?_
  have hm0 : ∀ k, k ∉ (⟨w, kys [] []⟩ : Base).mods := by simp [kys]
  refine At.run 100 true [] [] rfl trivial ?_
  refine At.step [] rfl rfl rfl rfl rfl trivial (OpOk.box rfl rfl rfl fun bq hbq => ?_)
  refine At.step [] rfl rfl rfl rfl rfl trivial (OpOk.box rfl rfl rfl fun b3 hb3 => ?_)
  refine At.step [] rfl rfl rfl rfl rfl trivial (OpOk.alloc (cs := [.slice none 0 0, .slice none 0 0, .slice none 0 0, .slice none 0 0, .int .i64 0]) rfl (by kernel_rfl) fun b4 hb4 => ?_)
  obtain ⟨gv, ov, rfl, hv⟩ := hia.get (by simp [i64s])
  have rv0 : ∀ {bx : Bx} {hp : List Seg}, RdW ⟨w, kys [] []⟩ bx hp gv (ov + (0 : Int).toNat * 1) [.int .i64 v0] := fun {_ _} => RdW.i64At hv (hm0 _) (j := 0) rfl (by simp)
  refine At.run 100 true [false, false, true] [hB 1, hB 1, hB 2, hB 1, hB 1] rfl (by (repeat' apply And.intro) <;> first | (simp; done) | exact True.intro | omega | rfl | (simp only [inK]; omega) | exact decide_eq_true (by omega) | exact decide_eq_false (by omega) | (simp; done) | (simp; omega) | (simp [Value.oneCell']; done) | exact i64s_one _ | exact AggOk.mk (by kernel_rfl) (by kernel_rfl)) ?_
  refine At.step [] rfl rfl rfl rfl rfl trivial (OpOk.call rfl (fun w' hw' => Tryd.SetStake_w b ⟨a1, a2, a3, a4, c1, c2, c3, c4⟩ [K, B, 0] w' hi rfl ⟨(ho.h1.ext hw'.ext (by simp [kys])), (ho.h2.ext hw'.ext (by simp [kys])), (ho.h3.ext hw'.ext (by simp [kys])), (ho.h4.ext hw'.ext (by simp [kys]))⟩) ?_)
  rintro v bx' hp' ⟨rfl, g1, c5, rfl, rfl⟩
  rw [show decide (nthI [K, B, 0] 2 = 0) = true from by simp [nthI]]
  have hS1 : (insS [K, B, 0] true b.S).length ≤ b.S.length := by have h := insB_len (ge := geS [K, B, 0]) (eq := eqS [K, B, 0]) (x := [K, B, 0]) (l := b.S) (d := true); simpa [insS] using h
  have hR1 : Recs 3 (insS [K, B, 0] true b.S) := fun y hy => by
    rcases insS_mem.1 hy with h | h
    · cases h.1
    · exact hi.r2 y h.1
  have l2 := hi.l2
  generalize insS [K, B, 0] true b.S = S1 at *
  by_cases hz : v0 = 0
  · subst hz
    rw [if_pos rfl, decide_eq_true (rfl : (0 : Int) = 0)]
    refine At.run 100 true [true, true] [hB 2, hB 1, hR [.int .i64 0], hB 2] rfl (by (repeat' apply And.intro) <;> first | exact cells5 rfl rfl rfl rfl rfl | exact rv0 | (simp; done) | exact True.intro | omega | rfl | (simp only [inK]; omega) | exact decide_eq_true (by omega) | exact decide_eq_false (by omega) | (simp; done) | (simp; omega) | (simp [Value.oneCell']; done) | exact i64s_one _ | exact AggOk.mk (by kernel_rfl) (by kernel_rfl)) ?_
    have hib : BkIn { b with S := S1, c := -1 } := ⟨hi.r1, hR1, hi.r3, hi.r4, hi.l1, by show S1.length ≤ _; omega, hi.l3, hi.l4, by simp [inK]⟩
    refine At.draw 11 rfl rfl rfl rfl ?_
    refine AtD.lex 0 9 2 true [] [hB 2, hB 1, hB 1, hR [.int .i64 0]] ⟨by kernel_rfl, by kernel_rfl, by kernel_rfl, rfl, by kernel_rfl, by kernel_rfl⟩ rfl rfl rfl (by (repeat' apply And.intro) <;> first | exact rv0 | exact True.intro | omega | rfl | (simp only [inK]; omega) | exact decide_eq_true (by omega) | exact decide_eq_false (by omega) | (simp; done) | (simp; omega) | (simp [Value.oneCell']; done) | exact i64s_one _ | exact AggOk.mk (by kernel_rfl) (by kernel_rfl)) (fun h => by cases h) ?_
    refine AtD.fork1 9 (by kernel_rfl) (StepD.by [] rfl rfl rfl rfl trivial (OpOk.call rfl (fun w' hw' => Tryd.SetStake_w { b with S := S1, c := -1 } ⟨a1, svA g1, a3, a4, c1, c5, c3, c4⟩ [K, B, 0] w' hib rfl ⟨(ho.h1.ext hw'.ext (by simp [kys])), SlOk.row (hw'.hp (Seg.row g1 54 3 S1.length c5 (S1.flatMap i64s)) (by simp)), (ho.h3.ext hw'.ext (by simp [kys])), (ho.h4.ext hw'.ext (by simp [kys]))⟩) ?_))
    rintro v bx' hp' ⟨rfl, g2, c6, rfl, rfl⟩
    refine AtD.fork1 10 (by kernel_rfl) (StepD.by0 [] rfl rfl rfl trivial (OpOk.one true [] [hB 2] rfl (by (repeat' apply And.intro) <;> first | exact cells5 rfl rfl rfl rfl rfl | exact True.intro | omega | rfl | (simp only [inK]; omega) | exact decide_eq_true (by omega) | exact decide_eq_false (by omega) | (simp; done) | (simp; omega) | (simp [Value.oneCell']; done) | exact i64s_one _ | exact AggOk.mk (by kernel_rfl) (by kernel_rfl)) ?_))
    refine AtD.done (by kernel_rfl) ?_
    refine At.run 100 true [] [hB 2, hB 0] rfl (by (repeat' apply And.intro) <;> first | exact cells5 rfl rfl rfl rfl rfl | exact True.intro | omega | rfl | (simp only [inK]; omega) | exact decide_eq_true (by omega) | exact decide_eq_false (by omega) | (simp; done) | (simp; omega) | (simp [Value.oneCell']; done) | exact i64s_one _ | exact AggOk.mk (by kernel_rfl) (by kernel_rfl)) ?_
    refine At.reshape (fun w' hw' => WOk.freeze1 hw') ?_
    exact At.retK [] [true] [hB 0] rfl rfl Tryd.func38 rfl ⟨rfl, trivial⟩ ⟨rfl, ⟨a1, svA g2, a3, a4, c1, c6, c3, c4⟩, _, rfl, rfl, fun w' hx h => ⟨h.h1, SlOk.row (hx _ (List.mem_singleton.2 rfl)), h.h3, h.h4⟩⟩
  · rw [if_neg hz, decide_eq_false hz]
    refine At.run 100 true [true, false] [hB 2, hB 1, hR [.int .i64 v0]] rfl (by (repeat' apply And.intro) <;> first | exact cells5 rfl rfl rfl rfl rfl | exact rv0 | (simp [hz]; done) | exact True.intro | omega | rfl | (simp only [inK]; omega) | exact decide_eq_true (by omega) | exact decide_eq_false (by omega) | (simp; done) | (simp; omega) | (simp [Value.oneCell']; done) | exact i64s_one _ | exact AggOk.mk (by kernel_rfl) (by kernel_rfl)) ?_
    have e2 : decide (nthI [K, B, v0] 2 = 0) = false := by simp [nthI, hz]
    have hib : BkIn { b with S := S1 } := ⟨hi.r1, hR1, hi.r3, hi.r4, hi.l1, by show S1.length ≤ _; omega, hi.l3, hi.l4, hi.cc⟩
    refine At.draw 11 rfl rfl rfl rfl ?_
    refine AtD.lex 0 9 2 true [] [hB 2, hB 1, hB 1, hR [.int .i64 v0]] ⟨by kernel_rfl, by kernel_rfl, by kernel_rfl, rfl, by kernel_rfl, by kernel_rfl⟩ rfl rfl rfl (by (repeat' apply And.intro) <;> first | exact rv0 | exact True.intro | omega | rfl | (simp only [inK]; omega) | exact decide_eq_true (by omega) | exact decide_eq_false (by omega) | (simp; done) | (simp; omega) | (simp [Value.oneCell']; done) | exact i64s_one _ | exact AggOk.mk (by kernel_rfl) (by kernel_rfl)) (fun h => by cases h) ?_
    refine AtD.fork1 9 (by kernel_rfl) (StepD.by [] rfl rfl rfl rfl trivial (OpOk.call rfl (fun w' hw' => Tryd.SetStake_w { b with S := S1 } ⟨a1, svA g1, a3, a4, c1, c5, c3, c4⟩ [K, B, v0] w' hib rfl ⟨(ho.h1.ext hw'.ext (by simp [kys])), SlOk.row (hw'.hp (Seg.row g1 54 3 S1.length c5 (S1.flatMap i64s)) (by simp)), (ho.h3.ext hw'.ext (by simp [kys])), (ho.h4.ext hw'.ext (by simp [kys]))⟩) ?_))
    rintro v bx' hp' ⟨rfl, g2, c6, rfl, rfl⟩
    rw [e2]
    refine AtD.fork1 10 (by kernel_rfl) (StepD.by0 [] rfl rfl rfl trivial (OpOk.one true [] [hB 2] rfl (by (repeat' apply And.intro) <;> first | exact cells5 rfl rfl rfl rfl rfl | exact True.intro | omega | rfl | (simp only [inK]; omega) | exact decide_eq_true (by omega) | exact decide_eq_false (by omega) | (simp; done) | (simp; omega) | (simp [Value.oneCell']; done) | exact i64s_one _ | exact AggOk.mk (by kernel_rfl) (by kernel_rfl)) ?_))
    refine AtD.done (by kernel_rfl) ?_
    refine At.run 100 true [] [hB 2, hB 0] rfl (by (repeat' apply And.intro) <;> first | exact cells5 rfl rfl rfl rfl rfl | exact True.intro | omega | rfl | (simp only [inK]; omega) | exact decide_eq_true (by omega) | exact decide_eq_false (by omega) | (simp; done) | (simp; omega) | (simp [Value.oneCell']; done) | exact i64s_one _ | exact AggOk.mk (by kernel_rfl) (by kernel_rfl)) ?_
    refine At.reshape (fun w' hw' => WOk.freeze1 hw') ?_
    exact At.retK [] [true] [hB 0] rfl rfl Tryd.func38 rfl ⟨rfl, trivial⟩ ⟨rfl, ⟨a1, svA g2, a3, a4, c1, c6, c3, c4⟩, _, rfl, rfl, fun w' hx h => ⟨h.h1, SlOk.row (hx _ (List.mem_singleton.2 rfl)), h.h3, h.h4⟩⟩

theorem Tryd.set2e_w (b : Bk) (A : BkA) (K B : Int) (was : List Int) (wa : Option Addr) (wc : Nat) (ia : Option Addr) (ic : Nat) (w : World) (hi : BkIn b) (ho : BkOk w b A) :
    Tri Tryd.prog 38 [.agg ⟨bkV b A⟩, .agg ⟨chC ⟨(2, K, B), was, wa, wc, [], ia, ic⟩⟩] w [] (Tryd.SetQ b A { b with S := insS [K, B, 0] true (insS [K, B, 0] true b.S) }) := by
  obtain ⟨a1, a2, a3, a4, c1, c2, c3, c4⟩ := A
  refine Tri.enter (bx := []) (hp := []) Tryd.func38 rfl (by kernel_rfl) rfl (Own.nil w) ?_
  have hm0 : ∀ k, k ∉ (⟨w, kys [] []⟩ : Base).mods := by simp [kys]
  refine At.run 100 true [] [] rfl trivial ?_
  refine At.step [] rfl rfl rfl rfl rfl trivial (OpOk.box rfl rfl rfl fun bq hbq => ?_)
  refine At.step [] rfl rfl rfl rfl rfl trivial (OpOk.box rfl rfl rfl fun b3 hb3 => ?_)
  refine At.step [] rfl rfl rfl rfl rfl trivial (OpOk.alloc (cs := [.slice none 0 0, .slice none 0 0, .slice none 0 0, .slice none 0 0, .int .i64 0]) rfl (by kernel_rfl) fun b4 hb4 => ?_)
  refine At.run 100 true [true] [hB 1] rfl (by (repeat' apply And.intro) <;> first | (simp; done) | exact True.intro | omega | rfl | (simp only [inK]; omega) | exact decide_eq_true (by omega) | exact decide_eq_false (by omega) | (simp; done) | (simp; omega) | (simp [Value.oneCell']; done) | exact i64s_one _ | exact AggOk.mk (by kernel_rfl) (by kernel_rfl)) ?_
  refine At.step [] rfl rfl rfl rfl rfl trivial (OpOk.makeSlice (sz := 1) (by_ := 8) (xs := i64s zer5) 5 rfl rfl rfl rfl rfl rfl (by omega) (by omega) (by omega) (by simp [i64s, zer5]) zer_at (by decide) (fun gz => ?_))
  refine At.run 100 true [false, true] [hB 1, hB 2, hB 1, hB 1] rfl (by (repeat' apply And.intro) <;> first | exact True.intro | omega | (simp only [inK]; omega) | (simp; done) | (simp; omega) | exact decide_eq_true (by omega) | exact decide_eq_false (by omega) | rfl | (simp [Value.oneCell']; done) | exact i64s_one _ | exact AggOk.mk (by kernel_rfl) (by kernel_rfl)) ?_
  refine At.step [] rfl rfl rfl rfl rfl trivial (OpOk.call rfl (fun w' hw' => Tryd.SetStake_w b ⟨a1, a2, a3, a4, c1, c2, c3, c4⟩ [K, B, 0] w' hi rfl ⟨(ho.h1.ext hw'.ext (by simp [kys])), (ho.h2.ext hw'.ext (by simp [kys])), (ho.h3.ext hw'.ext (by simp [kys])), (ho.h4.ext hw'.ext (by simp [kys]))⟩) ?_)
  rintro v bx' hp' ⟨rfl, g1, c5, rfl, rfl⟩
  rw [show decide (nthI [K, B, 0] 2 = 0) = true from by simp [nthI]]
  have hS1 : (insS [K, B, 0] true b.S).length ≤ b.S.length := by have h := insB_len (ge := geS [K, B, 0]) (eq := eqS [K, B, 0]) (x := [K, B, 0]) (l := b.S) (d := true); simpa [insS] using h
  have hR1 : Recs 3 (insS [K, B, 0] true b.S) := fun y hy => by
    rcases insS_mem.1 hy with h | h
    · cases h.1
    · exact hi.r2 y h.1
  have l2 := hi.l2
  generalize insS [K, B, 0] true b.S = S1 at *
  refine At.run 100 true [false, false] [hB 2, hB 1] rfl (by (repeat' apply And.intro) <;> first | exact cells5 rfl rfl rfl rfl rfl | exact True.intro | omega | rfl | (simp only [inK]; omega) | exact decide_eq_true (by omega) | exact decide_eq_false (by omega) | (simp; done) | (simp; omega) | (simp [Value.oneCell']; done) | exact i64s_one _ | exact AggOk.mk (by kernel_rfl) (by kernel_rfl)) ?_
  have hib : BkIn { b with S := S1 } := ⟨hi.r1, hR1, hi.r3, hi.r4, hi.l1, by show S1.length ≤ _; omega, hi.l3, hi.l4, hi.cc⟩
  refine At.draw 11 rfl rfl rfl rfl ?_
  refine AtD.lex 0 9 2 true [] [hB 2, hB 1, hB 1, hR [.int .i64 0]] ⟨by kernel_rfl, by kernel_rfl, by kernel_rfl, rfl, by kernel_rfl, by kernel_rfl⟩ rfl rfl rfl (by (repeat' apply And.intro) <;> first | exact rowZ (j := 1) 0 (by omega) rfl rfl | exact True.intro | omega | rfl | (simp only [inK]; omega) | exact decide_eq_true (by omega) | exact decide_eq_false (by omega) | (simp; done) | (simp; omega) | (simp [Value.oneCell']; done) | exact i64s_one _ | exact AggOk.mk (by kernel_rfl) (by kernel_rfl)) (fun h => by cases h) ?_
  refine AtD.fork1 9 (by kernel_rfl) (StepD.by [] rfl rfl rfl rfl trivial (OpOk.call rfl (fun w' hw' => Tryd.SetStake_w { b with S := S1 } ⟨a1, svA g1, a3, a4, c1, c5, c3, c4⟩ [K, B, 0] w' hib rfl ⟨(ho.h1.ext hw'.ext (by simp [kys])), SlOk.row (hw'.hp (Seg.row g1 54 3 S1.length c5 (S1.flatMap i64s)) (by simp)), (ho.h3.ext hw'.ext (by simp [kys])), (ho.h4.ext hw'.ext (by simp [kys]))⟩) ?_))
  rintro v bx' hp' ⟨rfl, g2, c6, rfl, rfl⟩
  refine AtD.fork1 10 (by kernel_rfl) (StepD.by0 [] rfl rfl rfl trivial (OpOk.one true [] [hB 2] rfl (by (repeat' apply And.intro) <;> first | exact cells5 rfl rfl rfl rfl rfl | exact True.intro | omega | rfl | (simp only [inK]; omega) | exact decide_eq_true (by omega) | exact decide_eq_false (by omega) | (simp; done) | (simp; omega) | (simp [Value.oneCell']; done) | exact i64s_one _ | exact AggOk.mk (by kernel_rfl) (by kernel_rfl)) ?_))
  refine AtD.done (by kernel_rfl) ?_
  refine At.run 100 true [] [hB 2, hB 0] rfl (by (repeat' apply And.intro) <;> first | exact cells5 rfl rfl rfl rfl rfl | exact True.intro | omega | rfl | (simp only [inK]; omega) | exact decide_eq_true (by omega) | exact decide_eq_false (by omega) | (simp; done) | (simp; omega) | (simp [Value.oneCell']; done) | exact i64s_one _ | exact AggOk.mk (by kernel_rfl) (by kernel_rfl)) ?_
  refine At.reshape (fun w' hw' => WOk.freeze1 hw') ?_
  exact At.retK [] [true] [hB 0] rfl rfl Tryd.func38 rfl ⟨rfl, trivial⟩ ⟨rfl, ⟨a1, svA g2, a3, a4, c1, c6, c3, c4⟩, _, rfl, rfl, fun w' hx h => ⟨h.h1, SlOk.row (hx _ (List.mem_singleton.2 rfl)), h.h3, h.h4⟩⟩

theorem Tryd.set3n_w (b : Bk) (A : BkA) (K B : Int) (was : List Int) (wa : Option Addr) (wc : Nat) (v0 v1 v2 v3 v4 : Int) (ia : Option Addr) (ic : Nat) (w : World) (hi : BkIn b) (ho : BkOk w b A) (hia : SlOk w ia (i64s [v0, v1, v2, v3, v4])) :
    Tri Tryd.prog 38 [.agg ⟨bkV b A⟩, .agg ⟨chC ⟨(3, K, B), was, wa, wc, [v0, v1, v2, v3, v4], ia, ic⟩⟩] w [] (Tryd.SetQ b A { b with O := insK [K, v0, v1, v2, v3, v4] (decide (v3 = 0)) b.O, c := if v3 = 0 then -1 else b.c }) := by
  obtain ⟨a1, a2, a3, a4, c1, c2, c3, c4⟩ := A
  refine Tri.enter (bx := []) (hp := []) Tryd.func38 rfl (by kernel_rfl) rfl (Own.nil w) ?_
  have hm0 : ∀ k, k ∉ (⟨w, kys [] []⟩ : Base).mods := by simp [kys]
  refine At.run 100 true [] [] rfl trivial ?_
  refine At.step [] rfl rfl rfl rfl rfl trivial (OpOk.box rfl rfl rfl fun bq hbq => ?_)
  refine At.step [] rfl rfl rfl rfl rfl trivial (OpOk.box rfl rfl rfl fun b3 hb3 => ?_)
  refine At.step [] rfl rfl rfl rfl rfl trivial (OpOk.alloc (cs := [.slice none 0 0, .slice none 0 0, .slice none 0 0, .slice none 0 0, .int .i64 0]) rfl (by kernel_rfl) fun b4 hb4 => ?_)
  obtain ⟨gv, ov, rfl, hv⟩ := hia.get (by simp [i64s])
  have rv0 : ∀ {bx : Bx} {hp : List Seg}, RdW ⟨w, kys [] []⟩ bx hp gv (ov + (0 : Int).toNat * 1) [.int .i64 v0] := fun {_ _} => RdW.i64At hv (hm0 _) (j := 0) rfl (by simp)
  have rv1 : ∀ {bx : Bx} {hp : List Seg}, RdW ⟨w, kys [] []⟩ bx hp gv (ov + (1 : Int).toNat * 1) [.int .i64 v1] := fun {_ _} => RdW.i64At hv (hm0 _) (j := 1) rfl (by simp)
  have rv2 : ∀ {bx : Bx} {hp : List Seg}, RdW ⟨w, kys [] []⟩ bx hp gv (ov + (2 : Int).toNat * 1) [.int .i64 v2] := fun {_ _} => RdW.i64At hv (hm0 _) (j := 2) rfl (by simp)
  have rv3 : ∀ {bx : Bx} {hp : List Seg}, RdW ⟨w, kys [] []⟩ bx hp gv (ov + (3 : Int).toNat * 1) [.int .i64 v3] := fun {_ _} => RdW.i64At hv (hm0 _) (j := 3) rfl (by simp)
  have rv4 : ∀ {bx : Bx} {hp : List Seg}, RdW ⟨w, kys [] []⟩ bx hp gv (ov + (4 : Int).toNat * 1) [.int .i64 v4] := fun {_ _} => RdW.i64At hv (hm0 _) (j := 4) rfl (by simp)
  by_cases hz : v3 = 0
  · subst hz
    rw [if_pos rfl, decide_eq_true (rfl : (0 : Int) = 0)]
    refine At.run 100 true [false, false, false, true, true, true] [hB 1, hB 1, hB 1, hR [.int .i64 0], hB 2] rfl (by (repeat' apply And.intro) <;> first | exact rv3 | (simp; done) | exact True.intro | omega | rfl | (simp only [inK]; omega) | exact decide_eq_true (by omega) | exact decide_eq_false (by omega) | (simp; done) | (simp; omega) | (simp [Value.oneCell']; done) | exact i64s_one _ | exact AggOk.mk (by kernel_rfl) (by kernel_rfl)) ?_
    have hib : BkIn { b with c := -1 } := ⟨hi.r1, hi.r2, hi.r3, hi.r4, hi.l1, hi.l2, hi.l3, hi.l4, by simp [inK]⟩
    refine At.draw 21 rfl rfl rfl rfl ?_
    refine AtD.lex 0 19 2 true [] [hB 2, hB 1, hR [.int .i64 v0], hR [.int .i64 v1], hR [.int .i64 v2], hR [.int .i64 0], hR [.int .i64 v4]] ⟨by kernel_rfl, by kernel_rfl, by kernel_rfl, rfl, by kernel_rfl, by kernel_rfl⟩ rfl rfl rfl (by (repeat' apply And.intro) <;> first | exact rv0 | exact rv1 | exact rv2 | exact rv3 | exact rv4 | exact True.intro | omega | rfl | (simp only [inK]; omega) | exact decide_eq_true (by omega) | exact decide_eq_false (by omega) | (simp; done) | (simp; omega) | (simp [Value.oneCell']; done) | exact i64s_one _ | exact AggOk.mk (by kernel_rfl) (by kernel_rfl)) (fun h => by cases h) ?_
    refine AtD.fork1 19 (by kernel_rfl) (StepD.by [] rfl rfl rfl rfl trivial (OpOk.call rfl (fun w' hw' => Tryd.SetOpen_w { b with c := -1 } ⟨a1, a2, a3, a4, c1, c2, c3, c4⟩ [K, v0, v1, v2, 0, v4] w' hib rfl ⟨(ho.h1.ext hw'.ext (by simp [kys])), (ho.h2.ext hw'.ext (by simp [kys])), (ho.h3.ext hw'.ext (by simp [kys])), (ho.h4.ext hw'.ext (by simp [kys]))⟩) ?_))
    rintro v bx' hp' ⟨rfl, g2, c6, rfl, rfl⟩
    rw [show decide (nthI [K, v0, v1, v2, 0, v4] 4 = 0) = true from by simp [nthI]]
    refine AtD.fork1 20 (by kernel_rfl) (StepD.by0 [] rfl rfl rfl trivial (OpOk.one true [] [hB 2] rfl (by (repeat' apply And.intro) <;> first | exact cells5 rfl rfl rfl rfl rfl | exact True.intro | omega | rfl | (simp only [inK]; omega) | exact decide_eq_true (by omega) | exact decide_eq_false (by omega) | (simp; done) | (simp; omega) | (simp [Value.oneCell']; done) | exact i64s_one _ | exact AggOk.mk (by kernel_rfl) (by kernel_rfl)) ?_))
    refine AtD.done (by kernel_rfl) ?_
    refine At.run 100 true [] [hB 2, hB 0] rfl (by (repeat' apply And.intro) <;> first | exact cells5 rfl rfl rfl rfl rfl | exact True.intro | omega | rfl | (simp only [inK]; omega) | exact decide_eq_true (by omega) | exact decide_eq_false (by omega) | (simp; done) | (simp; omega) | (simp [Value.oneCell']; done) | exact i64s_one _ | exact AggOk.mk (by kernel_rfl) (by kernel_rfl)) ?_
    refine At.reshape (fun w' hw' => WOk.freeze1 hw') ?_
    exact At.retK [] [true] [hB 0] rfl rfl Tryd.func38 rfl ⟨rfl, trivial⟩ ⟨rfl, ⟨a1, a2, svA g2, a4, c1, c2, c6, c4⟩, _, rfl, rfl, fun w' hx h => ⟨h.h1, h.h2, SlOk.row (hx _ (List.mem_singleton.2 rfl)), h.h4⟩⟩
  · rw [if_neg hz, decide_eq_false hz]
    refine At.run 100 true [false, false, false, true, true, false] [hB 1, hB 1, hB 1, hR [.int .i64 v3]] rfl (by (repeat' apply And.intro) <;> first | exact rv3 | (simp; done) | (simp [hz]; done) | exact True.intro | omega | rfl | (simp only [inK]; omega) | exact decide_eq_true (by omega) | exact decide_eq_false (by omega) | (simp; done) | (simp; omega) | (simp [Value.oneCell']; done) | exact i64s_one _ | exact AggOk.mk (by kernel_rfl) (by kernel_rfl)) ?_
    have hib : BkIn b := hi
    refine At.draw 21 rfl rfl rfl rfl ?_
    refine AtD.lex 0 19 2 true [] [hB 2, hB 1, hR [.int .i64 v0], hR [.int .i64 v1], hR [.int .i64 v2], hR [.int .i64 v3], hR [.int .i64 v4]] ⟨by kernel_rfl, by kernel_rfl, by kernel_rfl, rfl, by kernel_rfl, by kernel_rfl⟩ rfl rfl rfl (by (repeat' apply And.intro) <;> first | exact rv0 | exact rv1 | exact rv2 | exact rv3 | exact rv4 | exact True.intro | omega | rfl | (simp only [inK]; omega) | exact decide_eq_true (by omega) | exact decide_eq_false (by omega) | (simp; done) | (simp; omega) | (simp [Value.oneCell']; done) | exact i64s_one _ | exact AggOk.mk (by kernel_rfl) (by kernel_rfl)) (fun h => by cases h) ?_
    refine AtD.fork1 19 (by kernel_rfl) (StepD.by [] rfl rfl rfl rfl trivial (OpOk.call rfl (fun w' hw' => Tryd.SetOpen_w b ⟨a1, a2, a3, a4, c1, c2, c3, c4⟩ [K, v0, v1, v2, v3, v4] w' hib rfl ⟨(ho.h1.ext hw'.ext (by simp [kys])), (ho.h2.ext hw'.ext (by simp [kys])), (ho.h3.ext hw'.ext (by simp [kys])), (ho.h4.ext hw'.ext (by simp [kys]))⟩) ?_))
    rintro v bx' hp' ⟨rfl, g2, c6, rfl, rfl⟩
    rw [show decide (nthI [K, v0, v1, v2, v3, v4] 4 = 0) = false from by simp [nthI, hz]]
    refine AtD.fork1 20 (by kernel_rfl) (StepD.by0 [] rfl rfl rfl trivial (OpOk.one true [] [hB 2] rfl (by (repeat' apply And.intro) <;> first | exact cells5 rfl rfl rfl rfl rfl | exact True.intro | omega | rfl | (simp only [inK]; omega) | exact decide_eq_true (by omega) | exact decide_eq_false (by omega) | (simp; done) | (simp; omega) | (simp [Value.oneCell']; done) | exact i64s_one _ | exact AggOk.mk (by kernel_rfl) (by kernel_rfl)) ?_))
    refine AtD.done (by kernel_rfl) ?_
    refine At.run 100 true [] [hB 2, hB 0] rfl (by (repeat' apply And.intro) <;> first | exact cells5 rfl rfl rfl rfl rfl | exact True.intro | omega | rfl | (simp only [inK]; omega) | exact decide_eq_true (by omega) | exact decide_eq_false (by omega) | (simp; done) | (simp; omega) | (simp [Value.oneCell']; done) | exact i64s_one _ | exact AggOk.mk (by kernel_rfl) (by kernel_rfl)) ?_
    refine At.reshape (fun w' hw' => WOk.freeze1 hw') ?_
    exact At.retK [] [true] [hB 0] rfl rfl Tryd.func38 rfl ⟨rfl, trivial⟩ ⟨rfl, ⟨a1, a2, svA g2, a4, c1, c2, c6, c4⟩, _, rfl, rfl, fun w' hx h => ⟨h.h1, h.h2, SlOk.row (hx _ (List.mem_singleton.2 rfl)), h.h4⟩⟩

theorem Tryd.set3e_w (b : Bk) (A : BkA) (K B : Int) (was : List Int) (wa : Option Addr) (wc : Nat) (ia : Option Addr) (ic : Nat) (w : World) (hi : BkIn b) (ho : BkOk w b A) :
    Tri Tryd.prog 38 [.agg ⟨bkV b A⟩, .agg ⟨chC ⟨(3, K, B), was, wa, wc, [], ia, ic⟩⟩] w [] (Tryd.SetQ b A { b with O := insK [K, 0, 0, 0, 0, 0] true b.O }) := by
  obtain ⟨a1, a2, a3, a4, c1, c2, c3, c4⟩ := A
  refine Tri.enter (bx := []) (hp := []) Tryd.func38 rfl (by kernel_rfl) rfl (Own.nil w) ?_
  have hm0 : ∀ k, k ∉ (⟨w, kys [] []⟩ : Base).mods := by simp [kys]
  refine At.run 100 true [] [] rfl trivial ?_
  refine At.step [] rfl rfl rfl rfl rfl trivial (OpOk.box rfl rfl rfl fun bq hbq => ?_)
  refine At.step [] rfl rfl rfl rfl rfl trivial (OpOk.box rfl rfl rfl fun b3 hb3 => ?_)
  refine At.step [] rfl rfl rfl rfl rfl trivial (OpOk.alloc (cs := [.slice none 0 0, .slice none 0 0, .slice none 0 0, .slice none 0 0, .int .i64 0]) rfl (by kernel_rfl) fun b4 hb4 => ?_)
  refine At.run 100 true [true] [hB 1] rfl (by (repeat' apply And.intro) <;> first | (simp; done) | exact True.intro | omega | rfl | (simp only [inK]; omega) | exact decide_eq_true (by omega) | exact decide_eq_false (by omega) | (simp; done) | (simp; omega) | (simp [Value.oneCell']; done) | exact i64s_one _ | exact AggOk.mk (by kernel_rfl) (by kernel_rfl)) ?_
  refine At.step [] rfl rfl rfl rfl rfl trivial (OpOk.makeSlice (sz := 1) (by_ := 8) (xs := i64s zer5) 5 rfl rfl rfl rfl rfl rfl (by omega) (by omega) (by omega) (by simp [i64s, zer5]) zer_at (by decide) (fun gz => ?_))
  refine At.run 100 true [false, false, true, false, false] [hB 1, hB 1] rfl (by (repeat' apply And.intro) <;> first | exact True.intro | omega | (simp only [inK]; omega) | (simp; done) | (simp; omega) | exact decide_eq_true (by omega) | exact decide_eq_false (by omega) | rfl | (simp [Value.oneCell']; done) | exact i64s_one _ | exact AggOk.mk (by kernel_rfl) (by kernel_rfl)) ?_
  have hib : BkIn b := hi
  refine At.draw 21 rfl rfl rfl rfl ?_
  refine AtD.lex 0 19 2 true [] [hB 2, hB 1, hR [.int .i64 0], hR [.int .i64 0], hR [.int .i64 0], hR [.int .i64 0], hR [.int .i64 0]] ⟨by kernel_rfl, by kernel_rfl, by kernel_rfl, rfl, by kernel_rfl, by kernel_rfl⟩ rfl rfl rfl (by (repeat' apply And.intro) <;> first | exact rowZ (j := 0) 0 (by omega) rfl rfl | exact rowZ (j := 0) 1 (by omega) rfl rfl | exact rowZ (j := 0) 2 (by omega) rfl rfl | exact rowZ (j := 0) 3 (by omega) rfl rfl | exact rowZ (j := 0) 4 (by omega) rfl rfl | exact True.intro | omega | rfl | (simp only [inK]; omega) | exact decide_eq_true (by omega) | exact decide_eq_false (by omega) | (simp; done) | (simp; omega) | (simp [Value.oneCell']; done) | exact i64s_one _ | exact AggOk.mk (by kernel_rfl) (by kernel_rfl)) (fun h => by cases h) ?_
  refine AtD.fork1 19 (by kernel_rfl) (StepD.by [] rfl rfl rfl rfl trivial (OpOk.call rfl (fun w' hw' => Tryd.SetOpen_w b ⟨a1, a2, a3, a4, c1, c2, c3, c4⟩ [K, 0, 0, 0, 0, 0] w' hib rfl ⟨(ho.h1.ext hw'.ext (by simp [kys])), (ho.h2.ext hw'.ext (by simp [kys])), (ho.h3.ext hw'.ext (by simp [kys])), (ho.h4.ext hw'.ext (by simp [kys]))⟩) ?_))
  rintro v bx' hp' ⟨rfl, g2, c6, rfl, rfl⟩
  rw [show decide (nthI [K, 0, 0, 0, 0, 0] 4 = 0) = true from by simp [nthI]]
  refine AtD.fork1 20 (by kernel_rfl) (StepD.by0 [] rfl rfl rfl trivial (OpOk.one true [] [hB 2] rfl (by (repeat' apply And.intro) <;> first | exact cells5 rfl rfl rfl rfl rfl | exact True.intro | omega | rfl | (simp only [inK]; omega) | exact decide_eq_true (by omega) | exact decide_eq_false (by omega) | (simp; done) | (simp; omega) | (simp [Value.oneCell']; done) | exact i64s_one _ | exact AggOk.mk (by kernel_rfl) (by kernel_rfl)) ?_))
  refine AtD.done (by kernel_rfl) ?_
  refine At.run 100 true [] [hB 2, hB 0] rfl (by (repeat' apply And.intro) <;> first | exact cells5 rfl rfl rfl rfl rfl | exact True.intro | omega | rfl | (simp only [inK]; omega) | exact decide_eq_true (by omega) | exact decide_eq_false (by omega) | (simp; done) | (simp; omega) | (simp [Value.oneCell']; done) | exact i64s_one _ | exact AggOk.mk (by kernel_rfl) (by kernel_rfl)) ?_
  refine At.reshape (fun w' hw' => WOk.freeze1 hw') ?_
  exact At.retK [] [true] [hB 0] rfl rfl Tryd.func38 rfl ⟨rfl, trivial⟩ ⟨rfl, ⟨a1, a2, svA g2, a4, c1, c2, c6, c4⟩, _, rfl, rfl, fun w' hx h => ⟨h.h1, h.h2, SlOk.row (hx _ (List.mem_singleton.2 rfl)), h.h4⟩⟩

theorem Tryd.set5n_w (b : Bk) (A : BkA) (K B : Int) (was : List Int) (wa : Option Addr) (wc : Nat) (v0 : Int) (ia : Option Addr) (ic : Nat) (w : World) (hi : BkIn b) (ho : BkOk w b A) (hia : SlOk w ia (i64s [v0])) :
    Tri Tryd.prog 38 [.agg ⟨bkV b A⟩, .agg ⟨chC ⟨(5, K, B), was, wa, wc, [v0], ia, ic⟩⟩] w [] (Tryd.SetQ b A { b with c := if 0 ≤ b.c then v0 else b.c }) := by
  obtain ⟨a1, a2, a3, a4, c1, c2, c3, c4⟩ := A
  refine Tri.enter (bx := []) (hp := []) Tryd.func38 rfl (by kernel_rfl) rfl (Own.nil w) ?_
  have hm0 : ∀ k, k ∉ (⟨w, kys [] []⟩ : Base).mods := by simp [kys]
  refine At.run 100 true [] [] rfl trivial ?_
  refine At.step [] rfl rfl rfl rfl rfl trivial (OpOk.box rfl rfl rfl fun bq hbq => ?_)
  refine At.step [] rfl rfl rfl rfl rfl trivial (OpOk.box rfl rfl rfl fun b3 hb3 => ?_)
  refine At.step [] rfl rfl rfl rfl rfl trivial (OpOk.alloc (cs := [.slice none 0 0, .slice none 0 0, .slice none 0 0, .slice none 0 0, .int .i64 0]) rfl (by kernel_rfl) fun b4 hb4 => ?_)
  obtain ⟨gv, ov, rfl, hv⟩ := hia.get (by simp [i64s])
  have rv0 : ∀ {bx : Bx} {hp : List Seg}, RdW ⟨w, kys [] []⟩ bx hp gv (ov + (0 : Int).toNat * 1) [.int .i64 v0] := fun {_ _} => RdW.i64At hv (hm0 _) (j := 0) rfl (by simp)
  by_cases hz : 0 ≤ b.c
  · rw [if_pos hz]
    refine At.run 100 true [false, false, false, false, false, true, true] [hB 1, hB 1, hB 2, hR [.int .i64 v0], hB 2, hB 2, hB 0] rfl (by (repeat' apply And.intro) <;> first | exact rv0 | exact cells5 rfl rfl rfl rfl rfl | (simp; done) | exact True.intro | omega | rfl | (simp only [inK]; omega) | exact decide_eq_true (by omega) | exact decide_eq_false (by omega) | (simp; done) | (simp; omega) | (simp [Value.oneCell']; done) | exact i64s_one _ | exact AggOk.mk (by kernel_rfl) (by kernel_rfl)) ?_
    refine At.reshape (fun w' hw' => WOk.freeze0 hw') ?_
    exact At.retK [] [true] [hB 0] rfl rfl Tryd.func38 rfl ⟨rfl, trivial⟩ ⟨rfl, ⟨a1, a2, a3, a4, c1, c2, c3, c4⟩, _, rfl, rfl, fun w' hx h => ⟨h.h1, h.h2, h.h3, h.h4⟩⟩
  · rw [if_neg hz]
    refine At.run 100 true [false, false, false, false, false, true, false] [hB 1, hB 1, hB 2, hB 2, hB 0] rfl (by (repeat' apply And.intro) <;> first | exact cells5 rfl rfl rfl rfl rfl | (simp; done) | (simp [hz]; done) | exact True.intro | omega | rfl | (simp only [inK]; omega) | exact decide_eq_true (by omega) | exact decide_eq_false (by omega) | (simp; done) | (simp; omega) | (simp [Value.oneCell']; done) | exact i64s_one _ | exact AggOk.mk (by kernel_rfl) (by kernel_rfl)) ?_
    refine At.reshape (fun w' hw' => WOk.freeze0 hw') ?_
    exact At.retK [] [true] [hB 0] rfl rfl Tryd.func38 rfl ⟨rfl, trivial⟩ ⟨rfl, ⟨a1, a2, a3, a4, c1, c2, c3, c4⟩, _, rfl, rfl, fun w' hx h => ⟨h.h1, h.h2, h.h3, h.h4⟩⟩

end Go.Proofs

/-
  Walks of layer 14's document: a change set, whatever its list.
-/
namespace Go.Proofs
open Go Go.Eng
set_option maxRecDepth 100000
set_option maxHeartbeats 4000000
attribute [local irreducible] Tri

theorem len5 {x : List Int} (h : x.length = 5) : ∃ a b c d e, x = [a, b, c, d, e] := by
  match x, h with
  | [a, b, c, d, e], _ => exact ⟨a, b, c, d, e, rfl⟩
theorem Tryd.set_w (b : Bk) (A : BkA) (e : ChE) (w : World) (hi : BkIn b) (ho : BkOk w b A) (he : ChgOk (chP e)) (hia : SlOk w e.ia (i64s e.is)) :
    Tri Tryd.prog 38 [.agg ⟨bkV b A⟩, .agg ⟨chC e⟩] w [] (Tryd.SetQ b A (setB b (chP e))) := by
  obtain ⟨⟨l, K, B⟩, was, wa, wc, is, ia, ic⟩ := e
  have hl : l = 1 ∨ l = 2 ∨ l = 3 ∨ l = 4 ∨ l = 5 := by
    have h1 := he.l1
    have h2 := he.l5
    simp only [chP] at h1 h2
    omega
  by_cases hn : is = []
  · subst hn
    have h5 : l ≠ 5 := fun h => he.e5 h rfl
    rcases hl with rfl | rfl | rfl | rfl | rfl
    · rw [show setB b (chP ⟨(1, K, B), was, wa, wc, [], ia, ic⟩) = { b with H := outK K b.H } from by simp [setB, putK, chP]]
      exact Tryd.set1e_w b A K B was wa wc ia ic w hi ho
    · rw [show setB b (chP ⟨(2, K, B), was, wa, wc, [], ia, ic⟩) = { b with S := insS [K, B, 0] true (insS [K, B, 0] true b.S) } from by simp [setB, putS, chP, isV, zer5, k0]]
      exact Tryd.set2e_w b A K B was wa wc ia ic w hi ho
    · rw [show setB b (chP ⟨(3, K, B), was, wa, wc, [], ia, ic⟩) = { b with O := insK [K, 0, 0, 0, 0, 0] true b.O } from by simp [setB, putO, chP, isV, zer5, nthI]]
      exact Tryd.set3e_w b A K B was wa wc ia ic w hi ho
    · rw [show setB b (chP ⟨(4, K, B), was, wa, wc, [], ia, ic⟩) = { b with R := outK K b.R } from by simp [setB, putK, chP]]
      exact Tryd.set4e_w b A K B was wa wc ia ic w hi ho
    · exact (h5 rfl).elim
  · have hlen : is.length = widN l := he.len hn
    rcases hl with rfl | rfl | rfl | rfl | rfl
    · obtain ⟨v0, v1, v2, rfl⟩ := len3 hlen
      rw [show setB b (chP ⟨(1, K, B), was, wa, wc, [v0, v1, v2], ia, ic⟩) = { b with H := insK [K, v0, v1, v2] false (outK K b.H) } from by simp [setB, putK, chP]]
      exact Tryd.set1n_w b A K B was wa wc v0 v1 v2 ia ic w hi ho hia
    · obtain ⟨v0, rfl⟩ := len1 hlen
      rw [show setB b (chP ⟨(2, K, B), was, wa, wc, [v0], ia, ic⟩) = { b with S := insS [K, B, v0] (decide (v0 = 0)) (insS [K, B, 0] true b.S), c := if v0 = 0 then -1 else b.c } from by simp [setB, putS, chP, isV, zer5, k0]]
      exact Tryd.set2n_w b A K B was wa wc v0 ia ic w hi ho hia
    · obtain ⟨v0, v1, v2, v3, v4, rfl⟩ := len5 hlen
      rw [show setB b (chP ⟨(3, K, B), was, wa, wc, [v0, v1, v2, v3, v4], ia, ic⟩) = { b with O := insK [K, v0, v1, v2, v3, v4] (decide (v3 = 0)) b.O, c := if v3 = 0 then -1 else b.c } from by simp [setB, putO, chP, isV, zer5, nthI]]
      exact Tryd.set3n_w b A K B was wa wc v0 v1 v2 v3 v4 ia ic w hi ho hia
    · obtain ⟨v0, rfl⟩ := len1 hlen
      rw [show setB b (chP ⟨(4, K, B), was, wa, wc, [v0], ia, ic⟩) = { b with R := insK [K, v0] false (outK K b.R) } from by simp [setB, putK, chP]]
      exact Tryd.set4n_w b A K B was wa wc v0 ia ic w hi ho hia
    · obtain ⟨v0, rfl⟩ := len1 hlen
      rw [show setB b (chP ⟨(5, K, B), was, wa, wc, [v0], ia, ic⟩) = { b with c := if 0 ≤ b.c then v0 else b.c } from by simp [setB, chP, isV, k0]]
      exact Tryd.set5n_w b A K B was wa wc v0 ia ic w hi ho hia
end Go.Proofs

/-
  Walks of layer 14's document: may changes be.
-/
namespace Go.Proofs
open Go Go.Eng
set_option maxRecDepth 100000
set_option maxHeartbeats 4000000
attribute [local irreducible] Tri

theorem wid_at {l : Int} (h1 : 1 ≤ l) (h5 : l ≤ 5) : (i64s [0, 3, 1, 5, 1, 1])[0 + l.toNat * 1]? = some (.int .i64 (widN l)) := by
  have hl : l = 1 ∨ l = 2 ∨ l = 3 ∨ l = 4 ∨ l = 5 := by omega
  rcases hl with rfl | rfl | rfl | rfl | rfl <;> rfl
theorem Tryd.rvalues_w (l : Int) (v : List Int) (a : Option Addr) (c : Nat) (w : World) (h1 : 1 ≤ l) (h5 : l ≤ 5) (hv : SlOk w a (i64s v)) :
    Fun Tryd.prog 34 [.int .i64 l, .slice a v.length c] w (.bool (valuesB l v)) := by
  refine Tri.enter (bx := []) (hp := []) Tryd.func34 rfl (by kernel_rfl) rfl (Own.nil w) ?_
  refine At.run 100 true [] [] rfl trivial ?_
  refine At.step [] rfl rfl rfl rfl rfl trivial (OpOk.buildSlice rfl rfl rfl rfl rfl rfl rfl (fun bs hbs => ?_))
  by_cases hn : v = []
  · subst hn
    rw [show valuesB l [] = !decide (l = 5) by simp [valuesB]]
    refine At.run 100 true [true] [] rfl (by (repeat' apply And.intro) <;> first | exact True.intro | omega | (simp only [inK]; omega) | (simp; done) | (simp; omega) | exact decide_eq_true (by omega) | exact decide_eq_false (by omega) | rfl | (simp [Value.oneCell']; done) | exact i64s_one _ | exact AggOk.mk (by kernel_rfl) (by kernel_rfl)) ?_
    exact At.retK [] [] [] rfl rfl Tryd.func34 rfl trivial ⟨rfl, rfl, rfl⟩
  have hpos : 0 < v.length := List.length_pos_iff.2 hn
  have hm : ∀ k, k ∉ (⟨w, kys [] []⟩ : Base).mods := by simp [kys]
  have rW : ∀ {hp : List Seg}, RdW ⟨w, kys [] []⟩ [(bs, 3, i64s [0, 3, 1, 5, 1, 1])] hp bs (0 + l.toNat * 1) [.int .i64 (widN l)] := fun {_} => RdW.blk (i := 0) rfl (fun j u hu => by
    match j, hu with
    | 0, hu => cases hu; exact wid_at h1 h5)
  by_cases e1 : v.length = widN l
  · by_cases e3 : l = 3
    · have hl5 : v.length = 5 := by rw [e1, e3]; rfl
      obtain ⟨x, hx⟩ : ∃ x, v[2]? = some x := ⟨_, List.getElem?_eq_getElem (by omega)⟩
      obtain ⟨g, o, rfl, hc⟩ := hv.get (by simpa [i64s] using hn)
      have r2 : ∀ {bx : Bx} {hp : List Seg}, RdW ⟨w, kys [] []⟩ bx hp g (o + (2 : Int).toNat * 1) [.int .i64 x] := fun {_ _} => RdW.i64At hc (hm _) hx (by simp)
      by_cases z : x = 0
      · rw [show valuesB l v = true by simp [valuesB, hn, e1, e3, nthI_of hx, z]]
        refine At.run 100 true [false, false, false, true] [hR [.int .i64 (widN l)], hR [.int .i64 x]] rfl (by (repeat' apply And.intro) <;> first | exact rW | exact r2 | (simp [e1]; done) | (simp [e3]; done) | (simp [z]; done) | exact True.intro | omega | rfl | (simp only [inK]; omega) | exact decide_eq_true (by omega) | exact decide_eq_false (by omega) | (simp; done) | (simp; omega) | (simp [Value.oneCell']; done) | exact i64s_one _ | exact AggOk.mk (by kernel_rfl) (by kernel_rfl)) ?_
        exact At.retK [] [] [] rfl rfl Tryd.func34 rfl trivial ⟨rfl, rfl, rfl⟩
      · rw [show valuesB l v = decide (x = 1) by rw [valuesB, if_neg hn, nthI_of hx, decide_eq_true e1, decide_eq_false z, decide_eq_false (by simp [e3] : ¬ l ≠ 3)]; simp]
        refine At.run 100 true [false, false, false, false] [hR [.int .i64 (widN l)], hR [.int .i64 x], hR [.int .i64 x]] rfl (by (repeat' apply And.intro) <;> first | exact rW | exact r2 | (simp [e1]; done) | (simp [e3]; done) | (simp [z]; done) | exact True.intro | omega | rfl | (simp only [inK]; omega) | exact decide_eq_true (by omega) | exact decide_eq_false (by omega) | (simp; done) | (simp; omega) | (simp [Value.oneCell']; done) | exact i64s_one _ | exact AggOk.mk (by kernel_rfl) (by kernel_rfl)) ?_
        exact At.retK [] [] [] rfl rfl Tryd.func34 rfl trivial ⟨rfl, rfl, rfl⟩
    · rw [show valuesB l v = true by rw [valuesB, if_neg hn, decide_eq_true e1, decide_eq_true e3]; simp]
      refine At.run 100 true [false, false, true, true] [hR [.int .i64 (widN l)]] rfl (by (repeat' apply And.intro) <;> first | exact rW | (simp [e1]; done) | (simp [e3]; done) | exact True.intro | omega | rfl | (simp only [inK]; omega) | exact decide_eq_true (by omega) | exact decide_eq_false (by omega) | (simp; done) | (simp; omega) | (simp [Value.oneCell']; done) | exact i64s_one _ | exact AggOk.mk (by kernel_rfl) (by kernel_rfl)) ?_
      exact At.retK [] [] [] rfl rfl Tryd.func34 rfl trivial ⟨rfl, rfl, rfl⟩
  · rw [show valuesB l v = false by rw [valuesB, if_neg hn, decide_eq_false e1]; simp]
    refine At.run 100 true [false, true] [hR [.int .i64 (widN l)]] rfl (by (repeat' apply And.intro) <;> first | exact rW | (simp; omega) | exact True.intro | omega | rfl | (simp only [inK]; omega) | exact decide_eq_true (by omega) | exact decide_eq_false (by omega) | (simp; done) | (simp; omega) | (simp [Value.oneCell']; done) | exact i64s_one _ | exact AggOk.mk (by kernel_rfl) (by kernel_rfl)) ?_
    exact At.retK [] [] [] rfl rfl Tryd.func34 rfl trivial ⟨rfl, rfl, rfl⟩

theorem mayC_v1 {e : ChP} (h : valuesB e.1.1 e.2.1 = false) : mayC e = false := by unfold mayC; rw [h, Bool.false_and, Bool.and_false]
theorem mayC_v2 {e : ChP} (h : valuesB e.1.1 e.2.2 = false) : mayC e = false := by unfold mayC; rw [h, Bool.and_false, Bool.and_false]

theorem Tryd.rMay14_w (L : List ChE) (a : Option Addr) (ca : Nat) (w : World) (hl : L.length ≤ 1000000000) (ha : SlOk w a (L.flatMap chC)) (hL : ChL w L) :
    Fun Tryd.prog 17 [.slice a L.length ca] w (.bool (rightB (L.map chP))) := by
  refine Tri.enter (bx := []) (hp := []) Tryd.func17 rfl (by kernel_rfl) rfl (Own.nil w) ?_
  refine At.run 100 true [] [] rfl (by (repeat' apply And.intro) <;> first | exact True.intro | omega | (simp only [inK]; omega) | (simp; done) | (simp; omega) | exact decide_eq_true (by omega) | exact decide_eq_false (by omega) | rfl | (simp [Value.oneCell']; done) | exact i64s_one _ | exact AggOk.mk (by kernel_rfl) (by kernel_rfl)) ?_
  refine At.loop (n := L.length) (env0 := [(0, .slice a L.length ca), (3, .int .i64 0)]) (fun m env bx hp => ∃ i : Nat, m = L.length - i ∧ i ≤ L.length ∧ (∀ j e, j < i → L[j]? = some e → mayC (chP e) = true) ∧ (∀ j d e, j + 1 < i → L[j]? = some d → L[j + 1]? = some e → lt3 d.k e.k) ∧
    env = [(0, .slice a L.length ca), (3, .int .i64 i)] ∧ bx = [] ∧ hp = []) rfl ⟨0, by simp, by omega, fun j e h => by omega, fun j d e h => by omega, rfl, rfl, rfl⟩ ⟨rfl, rfl, trivial⟩ ?_
  rintro m env bx hp ⟨i, rfl, hi, hok, hris, rfl, rfl, rfl⟩ ih
  by_cases hlt : i < L.length
  · obtain ⟨e, hx⟩ : ∃ x, L[i]? = some x := ⟨_, List.getElem?_eq_getElem hlt⟩
    have hxP : (L.map chP)[i]? = some (chP e) := by rw [List.getElem?_map, hx]; rfl
    obtain ⟨g, o, rfl, hc⟩ := ha.get (chC_ne hx)
    have hm : ∀ k, k ∉ (⟨w, kys [] []⟩ : Base).mods := by simp [kys]
    have rX : ∀ {bx : Bx} {hp : List Seg}, RdW ⟨w, kys [] []⟩ bx hp g (o + (i : Int).toNat * 5) (chC e) := fun {_ _} => RdW.chE hc (hm _) hx (by simp)
    obtain ⟨x1, x2, x3, x4⟩ := hL e (List.mem_of_getElem? hx)
    have hEq : ∀ {bx : Bx} {hp : List Seg}, CallOb Tryd.prog ⟨w, kys [] []⟩ bx hp 33 [.slice e.wa e.was.length e.wc, .slice e.ia e.is.length e.ic] (.bool (decide (e.was = e.is))) := fun {_ _} w' hw' => Tryd.same_w _ _ _ _ _ _ w' (x1.ext hw'.ext (by simp [kys])) (x2.ext hw'.ext (by simp [kys])) (by omega)
    refine At.run 100 true [true] [hR (chC e)] rfl (by (repeat' apply And.intro) <;> first | exact rX | exact True.intro | omega | rfl | (simp only [inK]; omega) | exact decide_eq_true (by omega) | exact decide_eq_false (by omega) | (simp; done) | (simp; omega) | (simp [Value.oneCell']; done) | exact i64s_one _ | exact AggOk.mk (by kernel_rfl) (by kernel_rfl)) ?_
    refine At.step [] rfl rfl rfl rfl rfl trivial (OpOk.alloc (cs := [.int .i64 0, .int .i64 0, .int .i64 0, .slice none 0 0, .slice none 0 0]) rfl (by kernel_rfl) fun b4 hb4 => ?_)
    by_cases c1 : e.k.1 < 1
    · rw [rightB_false (RightP.no1 hxP (mayC_no (show ¬ _ from fun h => by have := h.1; simp only [chP] at this; omega)))]
      refine At.run 100 true [true, true, true, true, true] [hB 0, hB 0] rfl (by (repeat' apply And.intro) <;> first | exact chC_one _ | exact True.intro | omega | rfl | (simp only [inK]; omega) | exact decide_eq_true (by omega) | exact decide_eq_false (by omega) | (simp; done) | (simp; omega) | (simp [Value.oneCell']; done) | exact i64s_one _ | exact AggOk.mk (by kernel_rfl) (by kernel_rfl)) ?_
      exact At.retK [] [] [] rfl rfl Tryd.func17 rfl trivial ⟨rfl, rfl, rfl⟩
    by_cases c5 : 5 < e.k.1
    · rw [rightB_false (RightP.no1 hxP (mayC_no (show ¬ _ from fun h => by have := h.2.1; simp only [chP] at this; omega)))]
      refine At.run 100 true [false, true, true, true, true] [hB 0, hB 0, hB 0] rfl (by (repeat' apply And.intro) <;> first | exact chC_one _ | exact True.intro | omega | rfl | (simp only [inK]; omega) | exact decide_eq_true (by omega) | exact decide_eq_false (by omega) | (simp; done) | (simp; omega) | (simp [Value.oneCell']; done) | exact i64s_one _ | exact AggOk.mk (by kernel_rfl) (by kernel_rfl)) ?_
      exact At.retK [] [] [] rfl rfl Tryd.func17 rfl trivial ⟨rfl, rfl, rfl⟩
    have hV1 : ∀ {bx : Bx} {hp : List Seg}, CallOb Tryd.prog ⟨w, kys [] []⟩ bx hp 34 [.int .i64 e.k.1, .slice e.wa e.was.length e.wc] (.bool (valuesB e.k.1 e.was)) := fun {_ _} w' hw' => Tryd.rvalues_w _ _ _ _ w' (by omega) (by omega) (x1.ext hw'.ext (by simp [kys]))
    have hV2 : ∀ {bx : Bx} {hp : List Seg}, CallOb Tryd.prog ⟨w, kys [] []⟩ bx hp 34 [.int .i64 e.k.1, .slice e.ia e.is.length e.ic] (.bool (valuesB e.k.1 e.is)) := fun {_ _} w' hw' => Tryd.rvalues_w _ _ _ _ w' (by omega) (by omega) (x2.ext hw'.ext (by simp [kys]))
    cases hv1 : valuesB e.k.1 e.was with
    | false =>
      rw [hv1] at hV1
      rw [rightB_false (RightP.no1 hxP (mayC_v1 hv1))]
      refine At.run 100 true [false, false, true, true, true] [hB 0, hB 0, hB 0, hB 0, hB 0, hC (.bool false)] rfl (by (repeat' apply And.intro) <;> first | exact chC_one _ | exact hV1 | exact True.intro | omega | rfl | (simp only [inK]; omega) | exact decide_eq_true (by omega) | exact decide_eq_false (by omega) | (simp; done) | (simp; omega) | (simp [Value.oneCell']; done) | exact i64s_one _ | exact AggOk.mk (by kernel_rfl) (by kernel_rfl)) ?_
      exact At.retK [] [] [] rfl rfl Tryd.func17 rfl trivial ⟨rfl, rfl, rfl⟩
    | true =>
    rw [hv1] at hV1
    cases hv2 : valuesB e.k.1 e.is with
    | false =>
      rw [hv2] at hV2
      rw [rightB_false (RightP.no1 hxP (mayC_v2 hv2))]
      refine At.run 100 true [false, false, false, true, true] [hB 0, hB 0, hB 0, hB 0, hB 0, hC (.bool true), hB 0, hB 0, hC (.bool false)] rfl (by (repeat' apply And.intro) <;> first | exact chC_one _ | exact hV1 | exact hV2 | exact True.intro | omega | rfl | (simp only [inK]; omega) | exact decide_eq_true (by omega) | exact decide_eq_false (by omega) | (simp; done) | (simp; omega) | (simp [Value.oneCell']; done) | exact i64s_one _ | exact AggOk.mk (by kernel_rfl) (by kernel_rfl)) ?_
      exact At.retK [] [] [] rfl rfl Tryd.func17 rfl trivial ⟨rfl, rfl, rfl⟩
    | true =>
    rw [hv2] at hV2
    by_cases ce : e.was = e.is
    · rw [rightB_false (RightP.no1 hxP (mayC_no (show ¬ _ from fun h => h.2.2.1 ce)))]
      refine At.run 100 true [false, false, false, false, true] [hB 0, hB 0, hB 0, hB 0, hB 0, hC (.bool true), hB 0, hB 0, hC (.bool true), hB 0, hB 0, hC (.bool (decide (e.was = e.is)))] rfl (by (repeat' apply And.intro) <;> first | exact chC_one _ | exact hV1 | exact hV2 | exact hEq | (simp [ce]; done) | exact True.intro | omega | rfl | (simp only [inK]; omega) | exact decide_eq_true (by omega) | exact decide_eq_false (by omega) | (simp; done) | (simp; omega) | (simp [Value.oneCell']; done) | exact i64s_one _ | exact AggOk.mk (by kernel_rfl) (by kernel_rfl)) ?_
      exact At.retK [] [] [] rfl rfl Tryd.func17 rfl trivial ⟨rfl, rfl, rfl⟩
    have hdone : (e.k.1 ≠ 2 → e.k.2.2 = 0) → (e.k.1 = 5 → e.k.2.1 = 0) → mayC (chP e) = true := fun h1 h2 => by
      unfold mayC
      simp only [chP, hv1, hv2, Bool.and_self, Bool.and_true]
      exact decide_eq_true ⟨by omega, by omega, ce, h1, h2⟩
    by_cases c2 : e.k.1 = 2
    · have hmay := hdone (fun h => (h c2).elim) (fun h => by omega)
      refine At.run 100 true [false, false, false, false, false, false, false, false, false] [hB 0, hB 0, hB 0, hB 0, hB 0, hC (.bool true), hB 0, hB 0, hC (.bool true), hB 0, hB 0, hC (.bool (decide (e.was = e.is))), hB 0, hB 0] rfl (by (repeat' apply And.intro) <;> first | exact chC_one _ | exact hV1 | exact hV2 | exact hEq | (simp [ce]; done) | (simp [c2]; done) | exact True.intro | omega | rfl | (simp only [inK]; omega) | exact decide_eq_true (by omega) | exact decide_eq_false (by omega) | (simp; done) | (simp; omega) | (simp [Value.oneCell']; done) | exact i64s_one _ | exact AggOk.mk (by kernel_rfl) (by kernel_rfl)) ?_
      have hok' : ∀ j e, j < i + 1 → L[j]? = some e → mayC (chP e) = true := fun j d hj he => by
        by_cases e2 : j = i
        · subst e2; rw [hx] at he; cases he; exact hmay
        · exact hok j d (by omega) he
      by_cases h0 : i = 0
      · subst h0
        refine At.quiet true [false] [] ⟨by kernel_rfl, by kernel_rfl, rfl, rfl, rfl⟩ rfl rfl rfl (by (repeat' apply And.intro) <;> first | exact True.intro | omega | (simp only [inK]; omega) | (simp; done) | (simp; omega) | exact decide_eq_true (by omega) | exact decide_eq_false (by omega) | rfl | (simp [Value.oneCell']; done) | exact i64s_one _ | exact AggOk.mk (by kernel_rfl) (by kernel_rfl)) ?_
        refine At.run 100 true [false] [] rfl (by (repeat' apply And.intro) <;> first | exact True.intro | omega | (simp only [inK]; omega) | (simp; done) | (simp; omega) | exact decide_eq_true (by omega) | exact decide_eq_false (by omega) | rfl | (simp [Value.oneCell']; done) | exact i64s_one _ | exact AggOk.mk (by kernel_rfl) (by kernel_rfl)) ?_
        refine At.keep [false] [] rfl ?_
        exact At.weak (ih _ _ _ _ (by omega) ⟨0 + 1, rfl, by omega, hok', fun j d e h => by omega, rfl, rfl, rfl⟩) ⟨rfl, some_int_eq (by omega), trivial⟩
      · obtain ⟨i, rfl⟩ : ∃ i', i = i' + 1 := ⟨i - 1, by omega⟩
        obtain ⟨y, hy⟩ : ∃ y, L[i]? = some y := ⟨_, List.getElem?_eq_getElem (by omega)⟩
        have hyP : (L.map chP)[i]? = some (chP y) := by rw [List.getElem?_map, hy]; rfl
        have hi1 : (((i + 1 : Nat) : Int) - 1).toNat = (i : Int).toNat := by omega
        have rY : ∀ {bx : Bx} {hp : List Seg} (f : Nat) (v : Value), (chC y)[f]? = some v → RdW ⟨w, kys [] []⟩ bx hp g (o + (((i + 1 : Nat) : Int) - 1).toNat * 5 + f) [v] := fun {_ _} f v hv => by rw [hi1]; exact RdW.ch hc (hm _) hy f v hv
        have hLe : ∀ {bx : Bx} {hp : List Seg}, CallOb Tryd.prog ⟨w, kys [] []⟩ bx hp 35 [.int .i64 y.k.1, .int .i64 y.k.2.1, .int .i64 y.k.2.2, .int .i64 e.k.1, .int .i64 e.k.2.1, .int .i64 e.k.2.2] (.bool (decide (lt3 y.k e.k))) := fun {_ _} w' _ => Tryd.less_w _ _ _ _ _ _ w'
        refine At.quiet true [true] [hR [.int .i64 y.k.1], hR [.int .i64 y.k.2.1], hR [.int .i64 y.k.2.2], hB 0, hB 0, hB 0, hC (.bool (decide (lt3 y.k e.k)))] ⟨by kernel_rfl, by kernel_rfl, rfl, rfl, rfl⟩ rfl rfl rfl (by (repeat' apply And.intro) <;> first | exact rY 0 _ rfl | exact rY 1 _ rfl | exact rY 2 _ rfl | exact hLe | exact True.intro | omega | rfl | (simp only [inK]; omega) | exact decide_eq_true (by omega) | exact decide_eq_false (by omega) | (simp; done) | (simp; omega) | (simp [Value.oneCell']; done) | exact i64s_one _ | exact AggOk.mk (by kernel_rfl) (by kernel_rfl)) ?_
        by_cases hc3 : lt3 y.k e.k
        · refine At.run 100 true [false] [] rfl (by (repeat' apply And.intro) <;> first | (simp [hc3]; done) | exact True.intro | omega | rfl | (simp only [inK]; omega) | exact decide_eq_true (by omega) | exact decide_eq_false (by omega) | (simp; done) | (simp; omega) | (simp [Value.oneCell']; done) | exact i64s_one _ | exact AggOk.mk (by kernel_rfl) (by kernel_rfl)) ?_
          refine At.keep [false] [] rfl ?_
          exact At.weak (ih _ _ _ _ (by omega) ⟨i + 1 + 1, rfl, by omega, hok', fun j d e' hj hd he => by
            by_cases e2 : j = i
            · subst e2; rw [hy] at hd; rw [hx] at he; cases hd; cases he; exact hc3
            · exact hris j d e' (by omega) hd he, rfl, rfl, rfl⟩) ⟨rfl, some_int_eq (by omega), trivial⟩
        · rw [rightB_false (RightP.no2 hyP hxP hc3)]
          refine At.run 100 true [true] [] rfl (by (repeat' apply And.intro) <;> first | (simp [hc3]; done) | exact True.intro | omega | rfl | (simp only [inK]; omega) | exact decide_eq_true (by omega) | exact decide_eq_false (by omega) | (simp; done) | (simp; omega) | (simp [Value.oneCell']; done) | exact i64s_one _ | exact AggOk.mk (by kernel_rfl) (by kernel_rfl)) ?_
          exact At.retK [] [] [] rfl rfl Tryd.func17 rfl trivial ⟨rfl, rfl, rfl⟩
    by_cases cb : e.k.2.2 = 0
    · by_cases c5e : e.k.1 = 5
      · by_cases ca : e.k.2.1 = 0
        · have hmay := hdone (fun _ => cb) (fun _ => ca)
          refine At.run 100 true [false, false, false, false, false, true, false, true, false] [hB 0, hB 0, hB 0, hB 0, hB 0, hC (.bool true), hB 0, hB 0, hC (.bool true), hB 0, hB 0, hC (.bool (decide (e.was = e.is))), hB 0, hB 0, hB 0, hB 0] rfl (by (repeat' apply And.intro) <;> first | exact chC_one _ | exact hV1 | exact hV2 | exact hEq | (simp [ce]; done) | (simp [c2]; done) | (simp [c5e]; done) | (simp [cb]; done) | (simp [ca]; done) | exact True.intro | omega | rfl | (simp only [inK]; omega) | exact decide_eq_true (by omega) | exact decide_eq_false (by omega) | (simp; done) | (simp; omega) | (simp [Value.oneCell']; done) | exact i64s_one _ | exact AggOk.mk (by kernel_rfl) (by kernel_rfl)) ?_
          have hok' : ∀ j e, j < i + 1 → L[j]? = some e → mayC (chP e) = true := fun j d hj he => by
            by_cases e2 : j = i
            · subst e2; rw [hx] at he; cases he; exact hmay
            · exact hok j d (by omega) he
          by_cases h0 : i = 0
          · subst h0
            refine At.quiet true [false] [] ⟨by kernel_rfl, by kernel_rfl, rfl, rfl, rfl⟩ rfl rfl rfl (by (repeat' apply And.intro) <;> first | exact True.intro | omega | (simp only [inK]; omega) | (simp; done) | (simp; omega) | exact decide_eq_true (by omega) | exact decide_eq_false (by omega) | rfl | (simp [Value.oneCell']; done) | exact i64s_one _ | exact AggOk.mk (by kernel_rfl) (by kernel_rfl)) ?_
            refine At.run 100 true [false] [] rfl (by (repeat' apply And.intro) <;> first | exact True.intro | omega | (simp only [inK]; omega) | (simp; done) | (simp; omega) | exact decide_eq_true (by omega) | exact decide_eq_false (by omega) | rfl | (simp [Value.oneCell']; done) | exact i64s_one _ | exact AggOk.mk (by kernel_rfl) (by kernel_rfl)) ?_
            refine At.keep [false] [] rfl ?_
            exact At.weak (ih _ _ _ _ (by omega) ⟨0 + 1, rfl, by omega, hok', fun j d e h => by omega, rfl, rfl, rfl⟩) ⟨rfl, some_int_eq (by omega), trivial⟩
          · obtain ⟨i, rfl⟩ : ∃ i', i = i' + 1 := ⟨i - 1, by omega⟩
            obtain ⟨y, hy⟩ : ∃ y, L[i]? = some y := ⟨_, List.getElem?_eq_getElem (by omega)⟩
            have hyP : (L.map chP)[i]? = some (chP y) := by rw [List.getElem?_map, hy]; rfl
            have hi1 : (((i + 1 : Nat) : Int) - 1).toNat = (i : Int).toNat := by omega
            have rY : ∀ {bx : Bx} {hp : List Seg} (f : Nat) (v : Value), (chC y)[f]? = some v → RdW ⟨w, kys [] []⟩ bx hp g (o + (((i + 1 : Nat) : Int) - 1).toNat * 5 + f) [v] := fun {_ _} f v hv => by rw [hi1]; exact RdW.ch hc (hm _) hy f v hv
            have hLe : ∀ {bx : Bx} {hp : List Seg}, CallOb Tryd.prog ⟨w, kys [] []⟩ bx hp 35 [.int .i64 y.k.1, .int .i64 y.k.2.1, .int .i64 y.k.2.2, .int .i64 e.k.1, .int .i64 e.k.2.1, .int .i64 e.k.2.2] (.bool (decide (lt3 y.k e.k))) := fun {_ _} w' _ => Tryd.less_w _ _ _ _ _ _ w'
            refine At.quiet true [true] [hR [.int .i64 y.k.1], hR [.int .i64 y.k.2.1], hR [.int .i64 y.k.2.2], hB 0, hB 0, hB 0, hC (.bool (decide (lt3 y.k e.k)))] ⟨by kernel_rfl, by kernel_rfl, rfl, rfl, rfl⟩ rfl rfl rfl (by (repeat' apply And.intro) <;> first | exact rY 0 _ rfl | exact rY 1 _ rfl | exact rY 2 _ rfl | exact hLe | exact True.intro | omega | rfl | (simp only [inK]; omega) | exact decide_eq_true (by omega) | exact decide_eq_false (by omega) | (simp; done) | (simp; omega) | (simp [Value.oneCell']; done) | exact i64s_one _ | exact AggOk.mk (by kernel_rfl) (by kernel_rfl)) ?_
            by_cases hc3 : lt3 y.k e.k
            · refine At.run 100 true [false] [] rfl (by (repeat' apply And.intro) <;> first | (simp [hc3]; done) | exact True.intro | omega | rfl | (simp only [inK]; omega) | exact decide_eq_true (by omega) | exact decide_eq_false (by omega) | (simp; done) | (simp; omega) | (simp [Value.oneCell']; done) | exact i64s_one _ | exact AggOk.mk (by kernel_rfl) (by kernel_rfl)) ?_
              refine At.keep [false] [] rfl ?_
              exact At.weak (ih _ _ _ _ (by omega) ⟨i + 1 + 1, rfl, by omega, hok', fun j d e' hj hd he => by
                by_cases e2 : j = i
                · subst e2; rw [hy] at hd; rw [hx] at he; cases hd; cases he; exact hc3
                · exact hris j d e' (by omega) hd he, rfl, rfl, rfl⟩) ⟨rfl, some_int_eq (by omega), trivial⟩
            · rw [rightB_false (RightP.no2 hyP hxP hc3)]
              refine At.run 100 true [true] [] rfl (by (repeat' apply And.intro) <;> first | (simp [hc3]; done) | exact True.intro | omega | rfl | (simp only [inK]; omega) | exact decide_eq_true (by omega) | exact decide_eq_false (by omega) | (simp; done) | (simp; omega) | (simp [Value.oneCell']; done) | exact i64s_one _ | exact AggOk.mk (by kernel_rfl) (by kernel_rfl)) ?_
              exact At.retK [] [] [] rfl rfl Tryd.func17 rfl trivial ⟨rfl, rfl, rfl⟩
        · rw [rightB_false (RightP.no1 hxP (mayC_no (show ¬ _ from fun h => ca (h.2.2.2.2 c5e))))]
          refine At.run 100 true [false, false, false, false, false, true, false, true, true] [hB 0, hB 0, hB 0, hB 0, hB 0, hC (.bool true), hB 0, hB 0, hC (.bool true), hB 0, hB 0, hC (.bool (decide (e.was = e.is))), hB 0, hB 0, hB 0, hB 0] rfl (by (repeat' apply And.intro) <;> first | exact chC_one _ | exact hV1 | exact hV2 | exact hEq | (simp [ce]; done) | (simp [c2]; done) | (simp [c5e]; done) | (simp [cb]; done) | (simp [ca]; done) | exact True.intro | omega | rfl | (simp only [inK]; omega) | exact decide_eq_true (by omega) | exact decide_eq_false (by omega) | (simp; done) | (simp; omega) | (simp [Value.oneCell']; done) | exact i64s_one _ | exact AggOk.mk (by kernel_rfl) (by kernel_rfl)) ?_
          exact At.retK [] [] [] rfl rfl Tryd.func17 rfl trivial ⟨rfl, rfl, rfl⟩
      · have hmay := hdone (fun _ => cb) (fun h => (c5e h).elim)
        refine At.run 100 true [false, false, false, false, false, true, false, false, false] [hB 0, hB 0, hB 0, hB 0, hB 0, hC (.bool true), hB 0, hB 0, hC (.bool true), hB 0, hB 0, hC (.bool (decide (e.was = e.is))), hB 0, hB 0, hB 0] rfl (by (repeat' apply And.intro) <;> first | exact chC_one _ | exact hV1 | exact hV2 | exact hEq | (simp [ce]; done) | (simp [c2]; done) | (simp [c5e]; done) | (simp [cb]; done) | exact True.intro | omega | rfl | (simp only [inK]; omega) | exact decide_eq_true (by omega) | exact decide_eq_false (by omega) | (simp; done) | (simp; omega) | (simp [Value.oneCell']; done) | exact i64s_one _ | exact AggOk.mk (by kernel_rfl) (by kernel_rfl)) ?_
        have hok' : ∀ j e, j < i + 1 → L[j]? = some e → mayC (chP e) = true := fun j d hj he => by
          by_cases e2 : j = i
          · subst e2; rw [hx] at he; cases he; exact hmay
          · exact hok j d (by omega) he
        by_cases h0 : i = 0
        · subst h0
          refine At.quiet true [false] [] ⟨by kernel_rfl, by kernel_rfl, rfl, rfl, rfl⟩ rfl rfl rfl (by (repeat' apply And.intro) <;> first | exact True.intro | omega | (simp only [inK]; omega) | (simp; done) | (simp; omega) | exact decide_eq_true (by omega) | exact decide_eq_false (by omega) | rfl | (simp [Value.oneCell']; done) | exact i64s_one _ | exact AggOk.mk (by kernel_rfl) (by kernel_rfl)) ?_
          refine At.run 100 true [false] [] rfl (by (repeat' apply And.intro) <;> first | exact True.intro | omega | (simp only [inK]; omega) | (simp; done) | (simp; omega) | exact decide_eq_true (by omega) | exact decide_eq_false (by omega) | rfl | (simp [Value.oneCell']; done) | exact i64s_one _ | exact AggOk.mk (by kernel_rfl) (by kernel_rfl)) ?_
          refine At.keep [false] [] rfl ?_
          exact At.weak (ih _ _ _ _ (by omega) ⟨0 + 1, rfl, by omega, hok', fun j d e h => by omega, rfl, rfl, rfl⟩) ⟨rfl, some_int_eq (by omega), trivial⟩
        · obtain ⟨i, rfl⟩ : ∃ i', i = i' + 1 := ⟨i - 1, by omega⟩
          obtain ⟨y, hy⟩ : ∃ y, L[i]? = some y := ⟨_, List.getElem?_eq_getElem (by omega)⟩
          have hyP : (L.map chP)[i]? = some (chP y) := by rw [List.getElem?_map, hy]; rfl
          have hi1 : (((i + 1 : Nat) : Int) - 1).toNat = (i : Int).toNat := by omega
          have rY : ∀ {bx : Bx} {hp : List Seg} (f : Nat) (v : Value), (chC y)[f]? = some v → RdW ⟨w, kys [] []⟩ bx hp g (o + (((i + 1 : Nat) : Int) - 1).toNat * 5 + f) [v] := fun {_ _} f v hv => by rw [hi1]; exact RdW.ch hc (hm _) hy f v hv
          have hLe : ∀ {bx : Bx} {hp : List Seg}, CallOb Tryd.prog ⟨w, kys [] []⟩ bx hp 35 [.int .i64 y.k.1, .int .i64 y.k.2.1, .int .i64 y.k.2.2, .int .i64 e.k.1, .int .i64 e.k.2.1, .int .i64 e.k.2.2] (.bool (decide (lt3 y.k e.k))) := fun {_ _} w' _ => Tryd.less_w _ _ _ _ _ _ w'
          refine At.quiet true [true] [hR [.int .i64 y.k.1], hR [.int .i64 y.k.2.1], hR [.int .i64 y.k.2.2], hB 0, hB 0, hB 0, hC (.bool (decide (lt3 y.k e.k)))] ⟨by kernel_rfl, by kernel_rfl, rfl, rfl, rfl⟩ rfl rfl rfl (by (repeat' apply And.intro) <;> first | exact rY 0 _ rfl | exact rY 1 _ rfl | exact rY 2 _ rfl | exact hLe | exact True.intro | omega | rfl | (simp only [inK]; omega) | exact decide_eq_true (by omega) | exact decide_eq_false (by omega) | (simp; done) | (simp; omega) | (simp [Value.oneCell']; done) | exact i64s_one _ | exact AggOk.mk (by kernel_rfl) (by kernel_rfl)) ?_
          by_cases hc3 : lt3 y.k e.k
          · refine At.run 100 true [false] [] rfl (by (repeat' apply And.intro) <;> first | (simp [hc3]; done) | exact True.intro | omega | rfl | (simp only [inK]; omega) | exact decide_eq_true (by omega) | exact decide_eq_false (by omega) | (simp; done) | (simp; omega) | (simp [Value.oneCell']; done) | exact i64s_one _ | exact AggOk.mk (by kernel_rfl) (by kernel_rfl)) ?_
            refine At.keep [false] [] rfl ?_
            exact At.weak (ih _ _ _ _ (by omega) ⟨i + 1 + 1, rfl, by omega, hok', fun j d e' hj hd he => by
              by_cases e2 : j = i
              · subst e2; rw [hy] at hd; rw [hx] at he; cases hd; cases he; exact hc3
              · exact hris j d e' (by omega) hd he, rfl, rfl, rfl⟩) ⟨rfl, some_int_eq (by omega), trivial⟩
          · rw [rightB_false (RightP.no2 hyP hxP hc3)]
            refine At.run 100 true [true] [] rfl (by (repeat' apply And.intro) <;> first | (simp [hc3]; done) | exact True.intro | omega | rfl | (simp only [inK]; omega) | exact decide_eq_true (by omega) | exact decide_eq_false (by omega) | (simp; done) | (simp; omega) | (simp [Value.oneCell']; done) | exact i64s_one _ | exact AggOk.mk (by kernel_rfl) (by kernel_rfl)) ?_
            exact At.retK [] [] [] rfl rfl Tryd.func17 rfl trivial ⟨rfl, rfl, rfl⟩
    · rw [rightB_false (RightP.no1 hxP (mayC_no (show ¬ _ from fun h => cb (h.2.2.2.1 c2))))]
      refine At.run 100 true [false, false, false, false, false, true, true, true] [hB 0, hB 0, hB 0, hB 0, hB 0, hC (.bool true), hB 0, hB 0, hC (.bool true), hB 0, hB 0, hC (.bool (decide (e.was = e.is))), hB 0, hB 0] rfl (by (repeat' apply And.intro) <;> first | exact chC_one _ | exact hV1 | exact hV2 | exact hEq | (simp [ce]; done) | (simp [c2]; done) | (simp [cb]; done) | exact True.intro | omega | rfl | (simp only [inK]; omega) | exact decide_eq_true (by omega) | exact decide_eq_false (by omega) | (simp; done) | (simp; omega) | (simp [Value.oneCell']; done) | exact i64s_one _ | exact AggOk.mk (by kernel_rfl) (by kernel_rfl)) ?_
      exact At.retK [] [] [] rfl rfl Tryd.func17 rfl trivial ⟨rfl, rfl, rfl⟩
  · have hie : i = L.length := by omega
    subst hie
    rw [rightB_true (RightP.of (fun j e he => by
      rw [List.getElem?_map] at he
      obtain ⟨x, hx, rfl⟩ := Option.map_eq_some_iff.1 he
      exact hok j x (List.getElem?_eq_some_iff.1 hx).1 hx) (fun j d e hd he => by
      rw [List.getElem?_map] at hd he
      obtain ⟨x, hx, rfl⟩ := Option.map_eq_some_iff.1 hd
      obtain ⟨y, hy, rfl⟩ := Option.map_eq_some_iff.1 he
      exact hris j x y (List.getElem?_eq_some_iff.1 hy).1 hx hy))]
    refine At.run 100 true [false] [] rfl (by (repeat' apply And.intro) <;> first | exact True.intro | omega | (simp only [inK]; omega) | (simp; done) | (simp; omega) | exact decide_eq_true (by omega) | exact decide_eq_false (by omega) | rfl | (simp [Value.oneCell']; done) | exact i64s_one _ | exact AggOk.mk (by kernel_rfl) (by kernel_rfl)) ?_
    exact At.retK [] [] [] rfl rfl Tryd.func17 rfl trivial ⟨rfl, rfl, rfl⟩
end Go.Proofs

/-
  Walks of layer 14's document and statements: the value of a key, changes turned into the program's, are changes great.
-/
namespace Go.Proofs
open Go Go.Eng
set_option maxRecDepth 100000
set_option maxHeartbeats 4000000
attribute [local irreducible] Tri

/-- The values of a key among rows, as a slice. -/
def valS (T : List YE) (k : K3T) : Value := match T.find? fun x => decide (x.k = k) with
  | some x => .slice (some ⟨x.b, 0, none⟩) x.v.length x.v.length
  | none => .slice none 0 0
theorem roC_ne {T : List YE} {x : YE} {i : Nat} (h : T[i]? = some x) : T.flatMap roC ≠ [] := by
  intro e2
  have := List.flatMap_eq_nil_iff.1 e2 x (List.mem_of_getElem? h)
  cases this
theorem RdW.ro {S : Base} {bx : Bx} {hp : List Seg} {g o i : Nat} {T : List YE} {x : YE} (hc : ∀ j u, (T.flatMap roC)[j]? = some u → S.w0.cell? ⟨g, o + j, none⟩ = some u) (hm : g ∉ S.mods) (hx : T[i]? = some x) (f : Nat) (v : Value) (hv : (roC x)[f]? = some v) :
    RdW S bx hp g (o + (i : Int).toNat * 4 + f) [v] := RdW.base1 hm (by rw [Int.toNat_natCast, Nat.add_assoc]; exact hc _ _ (flat_get (f := roC) (sz := 4) (fun _ _ => rfl) hx f _ hv))
theorem find_none {T : List YE} {k : K3T} (h : ∀ (j : Nat) x, T[j]? = some x → x.k ≠ k) : T.find? (fun x => decide (x.k = k)) = none := by
  rw [List.find?_eq_none]
  intro x hx
  obtain ⟨j, hj⟩ := List.mem_iff_getElem?.1 hx
  simpa using h j x hj
theorem find_at {T : List YE} {k : K3T} {i : Nat} {x : YE} (hx : T[i]? = some x) (hk : x.k = k) (h : ∀ (j : Nat) x, j < i → T[j]? = some x → x.k ≠ k) : T.find? (fun x => decide (x.k = k)) = some x := by
  induction T generalizing i with
  | nil => cases hx
  | cons y T ih =>
    cases i with
    | zero =>
      have e : y = x := Option.some.inj hx
      subst e
      rw [List.find?_cons, decide_eq_true hk]
    | succ i =>
      have h0 := h 0 y (by omega) rfl
      rw [List.find?_cons, decide_eq_false h0]
      exact ih (by simpa using hx) fun j x hj hx => h (j + 1) x (by omega) (by simpa using hx)

theorem Tryd.value_w (T : List YE) (a : Option Addr) (ca : Nat) (e : ChE) (w : World) (hl : T.length ≤ 1000000000) (ha : SlOk w a (T.flatMap roC)) :
    Fun Tryd.prog 37 [.slice a T.length ca, .agg ⟨chC e⟩] w (valS T e.k) := by
  refine Tri.enter (bx := []) (hp := []) Tryd.func37 rfl (by kernel_rfl) rfl (Own.nil w) ?_
  refine At.run 100 true [] [] rfl trivial ?_
  refine At.step [] rfl rfl rfl rfl rfl trivial (OpOk.box rfl rfl rfl fun bq hbq => ?_)
  refine At.run 100 true [] [] rfl (by (repeat' apply And.intro) <;> first | exact True.intro | omega | (simp only [inK]; omega) | (simp; done) | (simp; omega) | exact decide_eq_true (by omega) | exact decide_eq_false (by omega) | rfl | (simp [Value.oneCell']; done) | exact i64s_one _ | exact AggOk.mk (by kernel_rfl) (by kernel_rfl)) ?_
  refine At.loop (n := T.length) (env0 := [(0, .slice a T.length ca), (3, .pointer (some ⟨bq, 0, none⟩)), (5, .int .i64 0)]) (fun m env bx hp => ∃ i : Nat, m = T.length - i ∧ i ≤ T.length ∧ (∀ j x, j < i → T[j]? = some x → x.k ≠ e.k) ∧
    env = [(0, .slice a T.length ca), (3, .pointer (some ⟨bq, 0, none⟩)), (5, .int .i64 i)] ∧ bx = [(bq, 46, chC e)] ∧ hp = []) rfl ⟨0, by simp, by omega, fun j x h => by omega, rfl, rfl, rfl⟩ ⟨rfl, rfl, rfl, trivial⟩ ?_
  rintro m env bx hp ⟨i, rfl, hi, hno, rfl, rfl, rfl⟩ ih
  by_cases hlt : i < T.length
  · obtain ⟨x, hx⟩ : ∃ x, T[i]? = some x := ⟨_, List.getElem?_eq_getElem hlt⟩
    obtain ⟨g, o, rfl, hc⟩ := ha.get (roC_ne hx)
    have hm : g ∉ (⟨w, kys [] []⟩ : Base).mods := by simp [kys]
    have rT : ∀ {bx : Bx} {hp : List Seg} (f : Nat) (v : Value), (roC x)[f]? = some v → RdW ⟨w, kys [] []⟩ bx hp g (o + (i : Int).toNat * 4 + f) [v] := fun {_ _} => RdW.ro hc hm hx
    have hnext : x.k ≠ e.k → ∀ j y, j < i + 1 → T[j]? = some y → y.k ≠ e.k := fun hne j y hj hy => by
      by_cases e2 : j = i
      · subst e2; rw [hx] at hy; cases hy; exact hne
      · exact hno j y (by omega) hy
    refine At.run 100 true [true] [] rfl (by (repeat' apply And.intro) <;> first | exact True.intro | omega | (simp only [inK]; omega) | (simp; done) | (simp; omega) | exact decide_eq_true (by omega) | exact decide_eq_false (by omega) | rfl | (simp [Value.oneCell']; done) | exact i64s_one _ | exact AggOk.mk (by kernel_rfl) (by kernel_rfl)) ?_
    by_cases e0 : x.k.1 = e.k.1
    · by_cases e1 : x.k.2.1 = e.k.2.1
      · refine At.quiet true [true, true] [hR [.int .i64 x.k.1], hB 0, hR [.int .i64 x.k.2.1], hB 0, hR [.int .i64 x.k.2.2], hB 0] ⟨by kernel_rfl, by kernel_rfl, rfl, rfl, rfl⟩ rfl rfl rfl (by (repeat' apply And.intro) <;> first | exact rT 0 _ rfl | exact rT 1 _ rfl | exact rT 2 _ rfl | (simp [e0]; done) | (simp [e1]; done) | exact True.intro | omega | rfl | (simp only [inK]; omega) | exact decide_eq_true (by omega) | exact decide_eq_false (by omega) | (simp; done) | (simp; omega) | (simp [Value.oneCell']; done) | exact i64s_one _ | exact AggOk.mk (by kernel_rfl) (by kernel_rfl)) ?_
        by_cases e2 : x.k.2.2 = e.k.2.2
        · have hk : x.k = e.k := Prod.ext e0 (Prod.ext e1 e2)
          rw [show valS T e.k = .slice (some ⟨x.b, 0, none⟩) x.v.length x.v.length by unfold valS; rw [find_at hx hk hno]]
          refine At.run 100 true [true] [hR [.slice (some ⟨x.b, 0, none⟩) x.v.length x.v.length]] rfl (by (repeat' apply And.intro) <;> first | exact rT 3 _ rfl | (simp [e0, e1, e2]; done) | exact True.intro | omega | rfl | (simp only [inK]; omega) | exact decide_eq_true (by omega) | exact decide_eq_false (by omega) | (simp; done) | (simp; omega) | (simp [Value.oneCell']; done) | exact i64s_one _ | exact AggOk.mk (by kernel_rfl) (by kernel_rfl)) ?_
          exact At.retK [] [] [] rfl rfl Tryd.func37 rfl trivial ⟨rfl, rfl, rfl⟩
        · refine At.run 100 true [false] [] rfl (by (repeat' apply And.intro) <;> first | (simp [e2]; done) | exact True.intro | omega | rfl | (simp only [inK]; omega) | exact decide_eq_true (by omega) | exact decide_eq_false (by omega) | (simp; done) | (simp; omega) | (simp [Value.oneCell']; done) | exact i64s_one _ | exact AggOk.mk (by kernel_rfl) (by kernel_rfl)) ?_
          refine At.keep [true] [] rfl ?_
          exact At.weak (ih _ _ _ _ (by omega) ⟨i + 1, rfl, by omega, hnext fun h => e2 (by rw [h]), rfl, rfl, rfl⟩) ⟨rfl, rfl, some_int_eq (by omega), trivial⟩
      · refine At.quiet true [true, false] [hR [.int .i64 x.k.1], hB 0, hR [.int .i64 x.k.2.1], hB 0] ⟨by kernel_rfl, by kernel_rfl, rfl, rfl, rfl⟩ rfl rfl rfl (by (repeat' apply And.intro) <;> first | exact rT 0 _ rfl | exact rT 1 _ rfl | (simp [e0]; done) | (simp [e1]; done) | exact True.intro | omega | rfl | (simp only [inK]; omega) | exact decide_eq_true (by omega) | exact decide_eq_false (by omega) | (simp; done) | (simp; omega) | (simp [Value.oneCell']; done) | exact i64s_one _ | exact AggOk.mk (by kernel_rfl) (by kernel_rfl)) ?_
        refine At.run 100 true [false] [] rfl (by (repeat' apply And.intro) <;> first | (simp [e1]; done) | exact True.intro | omega | rfl | (simp only [inK]; omega) | exact decide_eq_true (by omega) | exact decide_eq_false (by omega) | (simp; done) | (simp; omega) | (simp [Value.oneCell']; done) | exact i64s_one _ | exact AggOk.mk (by kernel_rfl) (by kernel_rfl)) ?_
        refine At.keep [true] [] rfl ?_
        exact At.weak (ih _ _ _ _ (by omega) ⟨i + 1, rfl, by omega, hnext fun h => e1 (by rw [h]), rfl, rfl, rfl⟩) ⟨rfl, rfl, some_int_eq (by omega), trivial⟩
    · refine At.quiet true [false, false] [hR [.int .i64 x.k.1], hB 0] ⟨by kernel_rfl, by kernel_rfl, rfl, rfl, rfl⟩ rfl rfl rfl (by (repeat' apply And.intro) <;> first | exact rT 0 _ rfl | (simp [e0]; done) | exact True.intro | omega | rfl | (simp only [inK]; omega) | exact decide_eq_true (by omega) | exact decide_eq_false (by omega) | (simp; done) | (simp; omega) | (simp [Value.oneCell']; done) | exact i64s_one _ | exact AggOk.mk (by kernel_rfl) (by kernel_rfl)) ?_
      refine At.run 100 true [false] [] rfl (by (repeat' apply And.intro) <;> first | (simp [e0]; done) | exact True.intro | omega | rfl | (simp only [inK]; omega) | exact decide_eq_true (by omega) | exact decide_eq_false (by omega) | (simp; done) | (simp; omega) | (simp [Value.oneCell']; done) | exact i64s_one _ | exact AggOk.mk (by kernel_rfl) (by kernel_rfl)) ?_
      refine At.keep [true] [] rfl ?_
      exact At.weak (ih _ _ _ _ (by omega) ⟨i + 1, rfl, by omega, hnext fun h => e0 (by rw [h]), rfl, rfl, rfl⟩) ⟨rfl, rfl, some_int_eq (by omega), trivial⟩
  · have hie : i = T.length := by omega
    subst hie
    rw [show valS T e.k = .slice none 0 0 by unfold valS; rw [find_none fun j x hx => hno j x (List.getElem?_eq_some_iff.1 hx).1 hx]]
    refine At.run 100 true [false] [] rfl (by (repeat' apply And.intro) <;> first | exact True.intro | omega | (simp only [inK]; omega) | (simp; done) | (simp; omega) | exact decide_eq_true (by omega) | exact decide_eq_false (by omega) | rfl | (simp [Value.oneCell']; done) | exact i64s_one _ | exact AggOk.mk (by kernel_rfl) (by kernel_rfl)) ?_
    exact At.retK [] [] [] rfl rfl Tryd.func37 rfl trivial ⟨rfl, rfl, rfl⟩

/-- More changes, or longer ones, than statements look at? -/
def greatC (L : List ChE) : Bool := decide (60 < L.length) || L.any fun e => decide (20 < e.was.length) || decide (20 < e.is.length)
theorem Tryd.great14_w (L : List ChE) (a : Option Addr) (ca : Nat) (w : World) (hl : L.length ≤ 9223372036854775807) (ha : SlOk w a (L.flatMap chC)) (hb : ∀ e, e ∈ L → e.was.length ≤ 9223372036854775807 ∧ e.is.length ≤ 9223372036854775807) :
    Fun Tryd.prog 13 [.slice a L.length ca] w (.bool (greatC L)) := by
  refine Tri.enter (bx := []) (hp := []) Tryd.func13 rfl (by kernel_rfl) rfl (Own.nil w) ?_
  by_cases h60 : 60 < L.length
  · rw [show greatC L = true by unfold greatC; rw [decide_eq_true h60, Bool.true_or]]
    refine At.run 100 true [true] [] rfl (by (repeat' apply And.intro) <;> first | exact True.intro | omega | (simp only [inK]; omega) | (simp; done) | (simp; omega) | exact decide_eq_true (by omega) | exact decide_eq_false (by omega) | rfl | (simp [Value.oneCell']; done) | exact i64s_one _ | exact AggOk.mk (by kernel_rfl) (by kernel_rfl)) ?_
    exact At.retK [] [] [] rfl rfl Tryd.func13 rfl trivial ⟨rfl, rfl, rfl⟩
  rw [show greatC L = L.any fun e => decide (20 < e.was.length) || decide (20 < e.is.length) by unfold greatC; rw [decide_eq_false h60, Bool.false_or]]
  refine At.run 100 true [false] [] rfl (by (repeat' apply And.intro) <;> first | exact True.intro | omega | (simp only [inK]; omega) | (simp; done) | (simp; omega) | exact decide_eq_true (by omega) | exact decide_eq_false (by omega) | rfl | (simp [Value.oneCell']; done) | exact i64s_one _ | exact AggOk.mk (by kernel_rfl) (by kernel_rfl)) ?_
  refine At.loop (n := L.length) (env0 := [(0, .slice a L.length ca), (3, .int .i64 0)]) (fun m env bx hp => ∃ i : Nat, m = L.length - i ∧ i ≤ L.length ∧ (L.take i).any (fun e => decide (20 < e.was.length) || decide (20 < e.is.length)) = false ∧
    env = [(0, .slice a L.length ca), (3, .int .i64 i)] ∧ bx = [] ∧ hp = []) rfl ⟨0, by simp, by omega, by simp, rfl, rfl, rfl⟩ ⟨rfl, rfl, trivial⟩ ?_
  rintro m env bx hp ⟨i, rfl, hi, hno, rfl, rfl, rfl⟩ ih
  by_cases hlt : i < L.length
  · obtain ⟨e, hx⟩ : ∃ e, L[i]? = some e := ⟨_, List.getElem?_eq_getElem hlt⟩
    obtain ⟨g, o, rfl, hc⟩ := ha.get (chC_ne hx)
    have hm : g ∉ (⟨w, kys [] []⟩ : Base).mods := by simp [kys]
    have rT : ∀ {bx : Bx} {hp : List Seg} (f : Nat) (v : Value), (chC e)[f]? = some v → RdW ⟨w, kys [] []⟩ bx hp g (o + (i : Int).toNat * 5 + f) [v] := fun {_ _} => RdW.ch hc hm hx
    obtain ⟨b1, b2⟩ := hb e (List.mem_of_getElem? hx)
    have hmem := List.mem_of_getElem? hx
    by_cases h1 : 20 < e.was.length
    · rw [show (L.any fun e => decide (20 < e.was.length) || decide (20 < e.is.length)) = true from List.any_eq_true.2 ⟨e, hmem, by rw [decide_eq_true h1, Bool.true_or]⟩]
      refine At.run 100 true [true, true, true] [hR [.slice e.wa e.was.length e.wc]] rfl (by (repeat' apply And.intro) <;> first | exact rT 3 _ rfl | exact True.intro | omega | rfl | (simp only [inK]; omega) | exact decide_eq_true (by omega) | exact decide_eq_false (by omega) | (simp; done) | (simp; omega) | (simp [Value.oneCell']; done) | exact i64s_one _ | exact AggOk.mk (by kernel_rfl) (by kernel_rfl)) ?_
      exact At.retK [] [] [] rfl rfl Tryd.func13 rfl trivial ⟨rfl, rfl, rfl⟩
    by_cases h2 : 20 < e.is.length
    · rw [show (L.any fun e => decide (20 < e.was.length) || decide (20 < e.is.length)) = true from List.any_eq_true.2 ⟨e, hmem, by rw [decide_eq_true h2, Bool.or_true]⟩]
      refine At.run 100 true [true, false, true] [hR [.slice e.wa e.was.length e.wc], hR [.slice e.ia e.is.length e.ic]] rfl (by (repeat' apply And.intro) <;> first | exact rT 3 _ rfl | exact rT 4 _ rfl | exact True.intro | omega | rfl | (simp only [inK]; omega) | exact decide_eq_true (by omega) | exact decide_eq_false (by omega) | (simp; done) | (simp; omega) | (simp [Value.oneCell']; done) | exact i64s_one _ | exact AggOk.mk (by kernel_rfl) (by kernel_rfl)) ?_
      exact At.retK [] [] [] rfl rfl Tryd.func13 rfl trivial ⟨rfl, rfl, rfl⟩
    refine At.run 100 true [true, false, false] [hR [.slice e.wa e.was.length e.wc], hR [.slice e.ia e.is.length e.ic]] rfl (by (repeat' apply And.intro) <;> first | exact rT 3 _ rfl | exact rT 4 _ rfl | exact True.intro | omega | rfl | (simp only [inK]; omega) | exact decide_eq_true (by omega) | exact decide_eq_false (by omega) | (simp; done) | (simp; omega) | (simp [Value.oneCell']; done) | exact i64s_one _ | exact AggOk.mk (by kernel_rfl) (by kernel_rfl)) ?_
    exact At.weak (ih _ _ _ _ (by omega) ⟨i + 1, rfl, by omega, by rw [List.take_add_one, hx, List.any_append, hno]; simp [h1, h2], rfl, rfl, rfl⟩) ⟨rfl, some_int_eq (by omega), trivial⟩
  · have hie : i = L.length := by omega
    subst hie
    rw [List.take_length] at hno
    rw [hno]
    refine At.run 100 true [false] [] rfl (by (repeat' apply And.intro) <;> first | exact True.intro | omega | (simp only [inK]; omega) | (simp; done) | (simp; omega) | exact decide_eq_true (by omega) | exact decide_eq_false (by omega) | rfl | (simp [Value.oneCell']; done) | exact i64s_one _ | exact AggOk.mk (by kernel_rfl) (by kernel_rfl)) ?_
    exact At.retK [] [] [] rfl rfl Tryd.func13 rfl trivial ⟨rfl, rfl, rfl⟩

theorem Tryd.Of_w (L : List ChE) (a : Option Addr) (ca : Nat) (w : World) (hl : L.length ≤ 1000000000) (ha : SlOk w a (L.flatMap chC)) :
    Tri Tryd.prog 14 [.slice a L.length ca] w [] (fun v bx hp => bx = [] ∧ ∃ (g : Option Nat) (c : Nat), v = sv g L.length c ∧ hp = [Seg.row g 67 5 L.length c (L.flatMap chC)]) := by
  refine Tri.enter (bx := []) (hp := []) Tryd.func14 rfl (by kernel_rfl) rfl (Own.nil w) ?_
  refine At.run 100 true [] [] rfl (by (repeat' apply And.intro) <;> first | exact True.intro | omega | (simp only [inK]; omega) | (simp; done) | (simp; omega) | exact decide_eq_true (by omega) | exact decide_eq_false (by omega) | rfl | (simp [Value.oneCell']; done) | exact i64s_one _ | exact AggOk.mk (by kernel_rfl) (by kernel_rfl)) ?_
  refine At.nilRow 67 5 ?_
  refine At.loop (n := L.length) (env0 := [(0, .slice a L.length ca), (3, sv none 0 0), (4, .int .i64 0)]) (fun m env bx hp => ∃ (i : Nat) (g : Option Nat) (c : Nat), m = L.length - i ∧ i ≤ L.length ∧
    env = [(0, .slice a L.length ca), (3, sv g i c), (4, .int .i64 i)] ∧ bx = [] ∧ hp = [Seg.row g 67 5 i c ((L.take i).flatMap chC)]) rfl ⟨0, none, 0, by simp, by omega, rfl, rfl, rfl⟩ ⟨rfl, rfl, rfl, trivial⟩ ?_
  rintro m env bx hp ⟨i, g0, c0, rfl, hi, rfl, rfl, rfl⟩ ih
  by_cases hlt : i < L.length
  · obtain ⟨e, hx⟩ : ∃ e, L[i]? = some e := ⟨_, List.getElem?_eq_getElem hlt⟩
    obtain ⟨g, o, rfl, hc⟩ := ha.get (chC_ne hx)
    have hm : g ∉ (⟨w, kys [] []⟩ : Base).mods := by simp [kys]
    have rT : ∀ {bx : Bx} {hp : List Seg} (f : Nat) (v : Value), (chC e)[f]? = some v → RdW ⟨w, kys [] []⟩ bx hp g (o + (i : Int).toNat * 5 + f) [v] := fun {_ _} => RdW.ch hc hm hx
    have hnx : L.take (i + 1) = L.take i ++ [e] := by rw [List.take_add_one, hx]; rfl
    refine At.run 100 true [true] [] rfl (by (repeat' apply And.intro) <;> first | exact True.intro | omega | (simp only [inK]; omega) | (simp; done) | (simp; omega) | exact decide_eq_true (by omega) | exact decide_eq_false (by omega) | rfl | (simp [Value.oneCell']; done) | exact i64s_one _ | exact AggOk.mk (by kernel_rfl) (by kernel_rfl)) ?_
    refine At.draw 30 rfl rfl rfl rfl ?_
    refine AtD.pures (ob := True) true (by kernel_rfl) [0] (fuel := 29) (by kernel_rfl) rfl (by (repeat' apply And.intro) <;> first | exact True.intro | omega | (simp only [inK]; omega) | (simp; done) | (simp; omega) | exact decide_eq_true (by omega) | exact decide_eq_false (by omega) | rfl | (simp [Value.oneCell']; done) | exact i64s_one _ | exact AggOk.mk (by kernel_rfl) (by kernel_rfl)) ?_
    refine AtD.lex 1 26 3 true [] [hR [.int .i64 e.k.1], hR [.int .i64 e.k.2.1], hR [.int .i64 e.k.2.2], hR [.slice e.wa e.was.length e.wc], hR [.slice e.ia e.is.length e.ic]] ⟨by kernel_rfl, by kernel_rfl, by kernel_rfl, rfl, by kernel_rfl, by kernel_rfl⟩ rfl rfl rfl (by (repeat' apply And.intro) <;> first | exact rT 0 _ rfl | exact rT 1 _ rfl | exact rT 2 _ rfl | exact rT 3 _ rfl | exact rT 4 _ rfl | exact True.intro | omega | rfl | (simp only [inK]; omega) | exact decide_eq_true (by omega) | exact decide_eq_false (by omega) | (simp; done) | (simp; omega) | (simp [Value.oneCell']; done) | exact i64s_one _ | exact AggOk.mk (by kernel_rfl) (by kernel_rfl)) (fun h => by cases h) ?_
    refine AtD.fork1 27 (by kernel_rfl) (StepD.by [] rfl rfl rfl rfl trivial (OpOk.buildSlice rfl rfl rfl rfl rfl rfl rfl (fun bs hbs => ?_)))
    refine AtD.fork1 28 (by kernel_rfl) (StepD.by [] rfl rfl rfl rfl trivial (OpOk.append 0 5 72 (chC e) rfl rfl rfl rfl rfl rfl rfl (RdW.blk0 (i := 0) rfl) rfl (chC_one _) (by omega) (by omega) fun g3 c3 => ?_))
    refine AtD.pures (ob := True) true (by kernel_rfl) [29] (fuel := 0) (by kernel_rfl) rfl (by (repeat' apply And.intro) <;> first | exact True.intro | omega | (simp only [inK]; omega) | (simp; done) | (simp; omega) | exact decide_eq_true (by omega) | exact decide_eq_false (by omega) | rfl | (simp [Value.oneCell']; done) | exact i64s_one _ | exact AggOk.mk (by kernel_rfl) (by kernel_rfl)) ?_
    refine AtD.done (by kernel_rfl) ?_
    refine At.run 100 true [] [] rfl (by (repeat' apply And.intro) <;> first | exact True.intro | omega | (simp only [inK]; omega) | (simp; done) | (simp; omega) | exact decide_eq_true (by omega) | exact decide_eq_false (by omega) | rfl | (simp [Value.oneCell']; done) | exact i64s_one _ | exact AggOk.mk (by kernel_rfl) (by kernel_rfl)) ?_
    refine At.keep [] [true] rfl ?_
    have ih := ih _ _ _ _ (by omega) ⟨i + 1, g3, c3, rfl, by omega, rfl, rfl, rfl⟩
    simp only [hnx, List.flatMap_append, List.flatMap_singleton] at ih
    exact At.weak ih ⟨rfl, rfl, some_int_eq (by omega), trivial⟩
  · have hie : i = L.length := by omega
    subst hie
    refine At.run 100 true [false] [] rfl (by (repeat' apply And.intro) <;> first | exact True.intro | omega | (simp only [inK]; omega) | (simp; done) | (simp; omega) | exact decide_eq_true (by omega) | exact decide_eq_false (by omega) | rfl | (simp [Value.oneCell']; done) | exact i64s_one _ | exact AggOk.mk (by kernel_rfl) (by kernel_rfl)) ?_
    exact At.ret [] rfl Tryd.func14 rfl trivial ⟨rfl, g0, c0, rfl, by rw [List.take_length]⟩
end Go.Proofs

/-
  Walks of layer 14: a book laid of a table.
-/
namespace Go.Proofs
open Go Go.Eng
set_option maxRecDepth 100000
set_option maxHeartbeats 4000000
attribute [local irreducible] Tri

/-- A row of a table: its key, its values, where they lie. -/
structure PE where
  k : K3T
  v : List Int
  a : Option Addr
  c : Nat
def PE.row (x : PE) : RowB := (x.k, x.v)
def PE.ent (x : PE) : Value × Value := (key3 x.k, .slice x.a x.v.length x.c)
def PE.of (y : YE) : PE := ⟨y.k, y.v, adE y, y.v.length⟩
theorem PE.of_ent (T : List YE) : (T.map PE.of).map PE.ent = T.map tEnt := by rw [List.map_map]; rfl
theorem PE.of_row (T : List YE) : (T.map PE.of).map PE.row = T.map YE.row := by rw [List.map_map]; rfl
/-- The keys at some places. -/
def someP (L : List PE) (T : List Nat) : List K3T := T.filterMap fun i => (L[i]?).map (·.k)
theorem someP_snoc {L : List PE} {T : List Nat} {i : Nat} {f : PE} (h : L[i]? = some f) : someP L (T ++ [i]) = someP L T ++ [f.k] := by simp [someP, h]
theorem someP_range (L : List PE) : ∀ m, m ≤ L.length → someP L (List.range m) = (L.take m).map (·.k)
  | 0, _ => by simp [someP]
  | m + 1, h => by
    have hm : m < L.length := by omega
    rw [List.range_succ, someP_snoc (List.getElem?_eq_getElem hm), someP_range L m (by omega), List.take_add_one, List.getElem?_eq_getElem hm, List.map_append]; rfl
theorem someP_all {L : List PE} {T : List Nat} (hp : T.Perm (List.range L.length)) : (someP L T).Perm (L.map (·.k)) := by
  have h1 := hp.filterMap fun i => (L[i]?).map (·.k)
  have h2 := someP_range L L.length (Nat.le_refl _)
  rw [List.take_length] at h2
  rw [← h2]; exact h1
theorem someP_len (L : List PE) (T : List Nat) : (someP L T).length ≤ T.length := List.length_filterMap_le ..

/-- Where a book's lists lie: rows of their own. -/
structure BkQ where
  g1 : Option Nat
  g2 : Option Nat
  g3 : Option Nat
  g4 : Option Nat
  c1 : Nat
  c2 : Nat
  c3 : Nat
  c4 : Nat
def BkQ.A (q : BkQ) : BkA := ⟨svA q.g1, svA q.g2, svA q.g3, svA q.g4, q.c1, q.c2, q.c3, q.c4⟩
def Tryd.bkHp (b : Bk) (q : BkQ) : List Seg := [Seg.row q.g1 52 4 b.H.length q.c1 (b.H.flatMap i64s), Seg.row q.g2 54 3 b.S.length q.c2 (b.S.flatMap i64s), Seg.row q.g3 57 6 b.O.length q.c3 (b.O.flatMap i64s), Seg.row q.g4 50 2 b.R.length q.c4 (b.R.flatMap i64s)]
theorem Tryd.bkHp_ok {b : Bk} {q : BkQ} {w : World} (h : ∀ s, s ∈ Tryd.bkHp b q → s.ok w) : BkOk w b q.A :=
  ⟨SlOk.row (h (Seg.row q.g1 52 4 b.H.length q.c1 (b.H.flatMap i64s)) (by simp [Tryd.bkHp])), SlOk.row (h (Seg.row q.g2 54 3 b.S.length q.c2 (b.S.flatMap i64s)) (by simp [Tryd.bkHp])), SlOk.row (h (Seg.row q.g3 57 6 b.O.length q.c3 (b.O.flatMap i64s)) (by simp [Tryd.bkHp])), SlOk.row (h (Seg.row q.g4 50 2 b.R.length q.c4 (b.R.flatMap i64s)) (by simp [Tryd.bkHp]))⟩
/-- The rows of keys, by a function. -/
def rowsF (f : FunT) (ks : List K3T) : List RowB := ks.map fun k => (k, f k)

theorem Tryd.laid_w (m ck : Nat) (es : Array MapEntry) (T : List PE) (f : FunT) (w : World) (hmap : w.heap[m]? = some (.map es ck)) (hst : MapKept.Stamped es ck) (hEs : es.toList.map (fun e => (e.key, e.val)) = T.map PE.ent) (hks : ∀ x ∈ es.toList, K3 x.key)
    (hT : TabR (T.map PE.row) f) (hA : ∀ x, x ∈ T → SlOk w x.a (i64s x.v)) (hsz : T.length ≤ 1048576) (hpos : 0 < T.length) :
    Tri Tryd.prog 28 [.map (some m)] w [] (fun v bx hp => bx = [] ∧ ∃ (q : BkQ), v = .agg ⟨bkV (bkOf (rowsF f (sort3 (T.map (·.k))))) q.A⟩ ∧ hp = Tryd.bkHp (bkOf (rowsF f (sort3 (T.map (·.k))))) q) := by
  refine Tri.enter (bx := []) (hp := []) Tryd.func28 rfl (by kernel_rfl) rfl (Own.nil w) ?_
  have hmm : ∀ {bx : Bx} {hp : List Seg} (w' : World), WOk ⟨w, kys [] []⟩ bx hp w' → w'.heap[m]? = some (.map es ck) := fun {_ _} w' hw' => by
    rw [hw'.ext.block m (Array.getElem?_eq_some_iff.1 hmap).1 (by simp [kys])]; exact hmap
  have hes : es.size = T.length := by have := congrArg List.length hEs; simpa using this
  refine At.run 100 true [] [] rfl trivial ?_
  refine At.step [] rfl rfl rfl rfl rfl trivial (OpOk.alloc (cs := [.slice none 0 0, .slice none 0 0, .slice none 0 0, .slice none 0 0, .int .i64 0]) rfl (by kernel_rfl) fun b2 hb2 => ?_)
  refine At.run 100 true [] [] rfl (by (repeat' apply And.intro) <;> first | exact True.intro | omega | (simp only [inK]; omega) | (simp; done) | (simp; omega) | exact decide_eq_true (by omega) | exact decide_eq_false (by omega) | rfl | (simp [Value.oneCell']; done) | exact i64s_one _ | exact AggOk.mk (by kernel_rfl) (by kernel_rfl)) ?_
  refine At.step [] rfl rfl rfl rfl rfl trivial (OpOk.alloc (cs := [.slice none 0 0, .slice none 0 0, .slice none 0 0, .slice none 0 0, .int .i64 0]) rfl (by kernel_rfl) fun b3 hb3 => ?_)
  refine At.run 100 true [] [] rfl (by (repeat' apply And.intro) <;> first | exact True.intro | omega | (simp only [inK]; omega) | (simp; done) | (simp; omega) | exact decide_eq_true (by omega) | exact decide_eq_false (by omega) | rfl | (simp [Value.oneCell']; done) | exact i64s_one _ | exact AggOk.mk (by kernel_rfl) (by kernel_rfl)) ?_
  refine At.step [] rfl rfl rfl rfl rfl trivial (OpOk.rangeMap rfl rfl Tryd.tableT (fun w' hw' => hmm w' hw') fun r => ?_)
  refine At.run 100 true [] [] rfl (by (repeat' apply And.intro) <;> first | exact True.intro | omega | (simp only [inK]; omega) | (simp; done) | (simp; omega) | exact decide_eq_true (by omega) | exact decide_eq_false (by omega) | rfl | (simp [Value.oneCell']; done) | exact i64s_one _ | exact AggOk.mk (by kernel_rfl) (by kernel_rfl)) ?_
  refine At.nilRow 62 3 ?_
  refine At.loop (n := leftN T.length []) (env0 := [(0, .map (some m)), (2, .pointer (some ⟨b2, 0, none⟩)), (3, .pointer (some ⟨b3, 0, none⟩)), (4, sv none 0 0), (10, .pointer (some ⟨r, 0, none⟩))]) (fun k env bx hp => ∃ (V : List Nat) (g : Option Nat) (c : Nat), k = leftN T.length V ∧ V.Nodup ∧ (∀ i, i ∈ V → i < T.length) ∧
    env = [(0, .map (some m)), (2, .pointer (some ⟨b2, 0, none⟩)), (3, .pointer (some ⟨b3, 0, none⟩)), (4, sv g (someP T V).length c), (10, .pointer (some ⟨r, 0, none⟩))] ∧ bx = [(b3, 27, bkV (bkOf []) ⟨none, none, none, none, 0, 0, 0, 0⟩), (b2, 27, bkV (bkOf []) ⟨none, none, none, none, 0, 0, 0, 0⟩)] ∧ hp = [Seg.row g 62 3 (someP T V).length c ((someP T V).flatMap k3c), Seg.iter r m es ck V]) rfl ⟨[], none, 0, by simp, by simp, by simp, rfl, rfl, rfl⟩ ⟨rfl, rfl, rfl, rfl, rfl, trivial⟩ ?_
  rintro kk env bx hp ⟨V, g, c, rfl, hn, hV, rfl, rfl, rfl⟩ ih
  have hvl := visited hn hV
  have hul := someP_len T V
  refine At.run 100 true [] [] rfl trivial ?_
  refine At.step [] rfl rfl rfl rfl rfl trivial (OpOk.nextMap 1 rfl rfl rfl (fun w' hw' => hmm w' hw') hst (fun i hi => by rw [hes]; exact hV i hi) (fun hall => ?_) (fun i e hi he => ?_))
  · clear ih
    have hp := perm_range hn hV (fun i hi => hall i (by rw [hes]; exact hi))
    have hkp := someP_all hp
    generalize someP T V = ks at *
    have hkl : ks.length = T.length := by rw [hkp.length_eq, List.length_map]
    have hsort : sort3 ks = sort3 (T.map (·.k)) := sort3_perm hkp
    have hsl : (sort3 ks).length = ks.length := List.length_mergeSort _
    refine At.run 100 true [false] [] rfl (by (repeat' apply And.intro) <;> first | exact True.intro | omega | (simp only [inK]; omega) | (simp; done) | (simp; omega) | exact decide_eq_true (by omega) | exact decide_eq_false (by omega) | rfl | (simp [Value.oneCell']; done) | exact i64s_one _ | exact AggOk.mk (by kernel_rfl) (by kernel_rfl)) ?_
    refine At.keep [true, true] [true] rfl ?_
    refine At.rowSome 0 rfl (by omega) (fun g' hg => ?_)
    subst hg
    refine At.step [] rfl rfl rfl rfl rfl trivial (OpOk.callO [] [true] rfl rfl (fun w' _ ho => Tryd.sortK_w g' c ks w' ho (by omega)) ?_)
    rintro v bx' hp' ⟨rfl, rfl, rfl⟩
    rw [hsort] at hsl ⊢
    generalize hKS : sort3 (T.map (·.k)) = KS at *
    have hin : ∀ k, k ∈ KS → ∃ x, x ∈ T ∧ x.k = k := by
      intro k hk
      rw [← hKS] at hk
      obtain ⟨x, hx, e⟩ := List.mem_map.1 ((List.mergeSort_perm _ _).mem_iff.1 hk)
      exact ⟨x, hx, e⟩
    refine At.run 100 true [] [] rfl (by (repeat' apply And.intro) <;> first | exact True.intro | omega | (simp only [inK]; omega) | (simp; done) | (simp; omega) | exact decide_eq_true (by omega) | exact decide_eq_false (by omega) | rfl | (simp [Value.oneCell']; done) | exact i64s_one _ | exact AggOk.mk (by kernel_rfl) (by kernel_rfl)) ?_
    refine At.nilRow 50 2 ?_
    refine At.nilRow 57 6 ?_
    refine At.nilRow 54 3 ?_
    refine At.nilRow 52 4 ?_
    refine At.loop (n := KS.length) (env0 := [(0, .map (some m)), (2, .pointer (some ⟨b2, 0, none⟩)), (3, .pointer (some ⟨b3, 0, none⟩)), (21, sv (some g') ks.length c), (22, .int .i64 ks.length), (23, .int .i64 0)]) (fun n env bx hp => ∃ (i : Nat) (B : Bk) (g1 g2 g3 g4 : Option Nat) (c1 c2 c3 c4 : Nat), n = KS.length - i ∧ i ≤ KS.length ∧ B = bkOf (rowsF f (KS.take i)) ∧
      env = [(0, .map (some m)), (2, .pointer (some ⟨b2, 0, none⟩)), (3, .pointer (some ⟨b3, 0, none⟩)), (21, sv (some g') ks.length c), (22, .int .i64 ks.length), (23, .int .i64 i)] ∧ bx = [(b3, 27, bkV B ⟨svA g1, svA g2, svA g3, svA g4, c1, c2, c3, c4⟩), (b2, 27, bkV (bkOf []) ⟨none, none, none, none, 0, 0, 0, 0⟩)] ∧
      hp = [Seg.row g1 52 4 B.H.length c1 (B.H.flatMap i64s), Seg.row g2 54 3 B.S.length c2 (B.S.flatMap i64s), Seg.row g3 57 6 B.O.length c3 (B.O.flatMap i64s), Seg.row g4 50 2 B.R.length c4 (B.R.flatMap i64s), Seg.row (some g') 62 3 ks.length c (KS.flatMap k3c)]) rfl
      ⟨0, bkOf [], none, none, none, none, 0, 0, 0, 0, by simp, by omega, rfl, rfl, rfl, rfl⟩ ⟨rfl, rfl, rfl, rfl, rfl, rfl, trivial⟩ ?_
    rintro n env bx hp ⟨i, B, g1, g2, g3, g4, c1, c2, c3, c4, rfl, hi, hB0, rfl, rfl, rfl⟩ ih
    by_cases hlt : i < KS.length
    · obtain ⟨k, hk⟩ : ∃ k, KS[i]? = some k := ⟨_, List.getElem?_eq_getElem hlt⟩
      obtain ⟨⟨xk, xv, xa, xc⟩, hxT, rfl⟩ := hin k (List.mem_of_getElem? hk)
      have hrow : (xk, xv) ∈ T.map PE.row := List.mem_map.2 ⟨_, hxT, rfl⟩
      have hwf := hT.wf _ hrow
      have hfk : f xk = xv := ((hT.iff xk xv).1 hrow).1
      have hsl0 := hA _ hxT
      have hkin : In3 xk := hwf.in3
      obtain ⟨j, hj⟩ := List.mem_iff_getElem?.1 hxT
      have hm0 : ∀ k, k ∉ (⟨w, kys [] []⟩ : Base).mods := by simp [kys]
      have hlen : xv.length = widN xk.1 := hwf.len
      have hwp := widN_pos xk.1
      obtain ⟨gv, ov, hxa, hcv⟩ := hsl0.get (by simp only [i64s, ne_eq, List.map_eq_nil_iff]; intro e; rw [e] at hlen; simp only [List.length_nil] at hlen; omega)
      dsimp only at hxa
      subst hxa
      have rV : ∀ {bx : Bx} {hp : List Seg} (j : Nat) (x : Int), xv[j]? = some x → RdW ⟨w, kys [] []⟩ bx hp gv (ov + (j : Int).toNat * 1) [.int .i64 x] := fun {_ _} j x hx => RdW.i64At hcv (hm0 _) hx (by simp)
      have hLk : ∀ {bx : Bx} {hp : List Seg}, LookOb Tryd.prog ⟨w, kys [] []⟩ bx hp 58 (.map (some m)) (key3 xk) false (.slice (some ⟨gv, ov, none⟩) xv.length xc) := fun {_ _} => LookOb.hitQ false Tryd.tableT Tryd.keyK (fun w' hw' => ⟨es, ck, hmm w' hw', hst, hks, hEs⟩) ⟨xk, rfl, hkin⟩ (i := j) (by rw [List.getElem?_map, hj]; rfl)
      have rK : ∀ {bx : Bx} {s1 s2 s3 s4 : Seg}, RdW ⟨w, kys [] []⟩ bx [s1, s2, s3, s4, Seg.row (some g') 62 3 ks.length c (KS.flatMap k3c)] g' (0 + (i : Int).toNat * 3) (k3c xk) := fun {_ _ _ _ _} => RdW.row (j := 4) rfl (fun j u hu => by
        rw [Nat.zero_add, Int.toNat_natCast]; exact flat_get (f := k3c) (sz := 3) (fun _ _ => rfl) hk j u hu)
      have hstep : rowsF f (KS.take (i + 1)) = rowsF f (KS.take i) ++ [(xk, xv)] := by
        rw [List.take_add_one, hk]; simp [rowsF, hfk]
      have hblen : (rowsF f (KS.take i)).length ≤ 1048576 := by simp only [rowsF, List.length_map, List.length_take]; omega
      have hh1 : B.H.length ≤ 1048576 := by rw [hB0]; simp only [bkOf, List.length_map]; exact Nat.le_trans (onL_len ..) hblen
      have hh2 : B.S.length ≤ 1048576 := by rw [hB0]; simp only [bkOf, List.length_map]; exact Nat.le_trans (onL_len ..) hblen
      have hh3 : B.O.length ≤ 1048576 := by rw [hB0]; simp only [bkOf, List.length_map]; exact Nat.le_trans (onL_len ..) hblen
      have hh4 : B.R.length ≤ 1048576 := by rw [hB0]; simp only [bkOf, List.length_map]; exact Nat.le_trans (onL_len ..) hblen
      have hnxt := bkOf_snoc (rowsF f (KS.take i)) (xk, xv)
      rw [← hstep, ← hB0] at hnxt
      have h1 := hwf.l1
      have h5 := hwf.l5
      refine At.run 100 true [true] [hR (k3c xk)] rfl (by (repeat' apply And.intro) <;> first | exact rK | exact True.intro | omega | rfl | (simp only [inK]; omega) | exact decide_eq_true (by omega) | exact decide_eq_false (by omega) | (simp; done) | (simp; omega) | (simp [Value.oneCell']; done) | exact i64s_one _ | exact AggOk.mk (by kernel_rfl) (by kernel_rfl)) ?_
      refine At.step [] rfl rfl rfl rfl rfl trivial (OpOk.alloc (cs := [.int .i64 0, .int .i64 0, .int .i64 0]) rfl (by kernel_rfl) fun b7 hb7 => ?_)
      obtain ⟨l, p, q⟩ := xk
      dsimp only at *
      have hl : l = 1 ∨ l = 2 ∨ l = 3 ∨ l = 4 ∨ l = 5 := by omega
      rcases hl with rfl | rfl | rfl | rfl | rfl
      · obtain ⟨v0, v1, v2, rfl⟩ := len3 hlen
        refine At.run 100 true [true] [hB 0, hB 0, hL (.slice (some ⟨gv, ov, none⟩) 3 xc), hB 0] rfl (by (repeat' apply And.intro) <;> first | exact hLk | exact i64s_one [_, _, _] | exact True.intro | omega | rfl | (simp only [inK]; omega) | exact decide_eq_true (by omega) | exact decide_eq_false (by omega) | (simp; done) | (simp; omega) | (simp [Value.oneCell']; done) | exact i64s_one _ | exact AggOk.mk (by kernel_rfl) (by kernel_rfl)) ?_
        refine At.draw 18 rfl rfl rfl rfl ?_
        refine AtD.pures (ob := True) true (by kernel_rfl) [0] (fuel := 17) (by kernel_rfl) rfl (by (repeat' apply And.intro) <;> first | exact True.intro | omega | (simp only [inK]; omega) | (simp; done) | (simp; omega) | exact decide_eq_true (by omega) | exact decide_eq_false (by omega) | rfl | (simp [Value.oneCell']; done) | exact i64s_one _ | exact AggOk.mk (by kernel_rfl) (by kernel_rfl)) ?_
        refine AtD.cutS (ι := Nat) 3 #[true, true, true, true, true, true, true, true, true, true, true, true, true, true, true, false, false, false] (fun bs => [(35, sv g1 B.H.length c1), (48, .slice (some ⟨bs, 0, none⟩) 1 1), (0, .map (some m)), (2, .pointer (some ⟨b2, 0, none⟩)), (3, .pointer (some ⟨b3, 0, none⟩)), (21, sv (some g') ks.length c), (22, .int .i64 ks.length), (23, .int .i64 i)]) (fun bs => [(bs, 52, i64s [p, v0, v1, v2]), (b7, 62, i64s [1, p, q]), (b3, 27, bkV B ⟨svA g1, svA g2, svA g3, svA g4, c1, c2, c3, c4⟩), (b2, 27, bkV (bkOf []) ⟨none, none, none, none, 0, 0, 0, 0⟩)]) (fun _ => [Seg.row g1 52 4 B.H.length c1 (B.H.flatMap i64s), Seg.row g2 54 3 B.S.length c2 (B.S.flatMap i64s), Seg.row g3 57 6 B.O.length c3 (B.O.flatMap i64s), Seg.row g4 50 2 B.R.length c4 (B.R.flatMap i64s), Seg.row (some g') 62 3 ks.length c (KS.flatMap k3c)]) ?_ (fun hd => ?_)
        · intro bs
          refine AtD.fork1 15 (by kernel_rfl) (StepD.by [] rfl rfl rfl rfl trivial (OpOk.append 0 4 32 (i64s [p, v0, v1, v2]) rfl rfl rfl rfl rfl rfl rfl (RdW.blk0 (i := 0) rfl) rfl (i64s_one _) (by omega) (by omega) fun g5 c5 => ?_))
          refine AtD.pures (ob := True) true (by kernel_rfl) [16] (fuel := 1) (by kernel_rfl) rfl (by (repeat' apply And.intro) <;> first | exact True.intro | omega | (simp only [inK]; omega) | (simp; done) | (simp; omega) | exact decide_eq_true (by omega) | exact decide_eq_false (by omega) | rfl | (simp [Value.oneCell']; done) | exact i64s_one _ | exact AggOk.mk (by kernel_rfl) (by kernel_rfl)) ?_
          refine AtD.fork1 17 (by kernel_rfl) (StepD.by0 [] rfl rfl rfl trivial (OpOk.one true [] [hB 2] rfl (by (repeat' apply And.intro) <;> first | (simp [Value.oneCell', sv]; done) | exact True.intro | omega | rfl | (simp only [inK]; omega) | exact decide_eq_true (by omega) | exact decide_eq_false (by omega) | (simp; done) | (simp; omega) | (simp [Value.oneCell']; done) | exact i64s_one _ | exact AggOk.mk (by kernel_rfl) (by kernel_rfl)) ?_))
          refine AtD.done (by kernel_rfl) ?_
          refine At.run 100 true [] [] rfl (by (repeat' apply And.intro) <;> first | exact True.intro | omega | (simp only [inK]; omega) | (simp; done) | (simp; omega) | exact decide_eq_true (by omega) | exact decide_eq_false (by omega) | rfl | (simp [Value.oneCell']; done) | exact i64s_one _ | exact AggOk.mk (by kernel_rfl) (by kernel_rfl)) ?_
          refine At.keep [false, false, true, true] [true, true, true, true, true] rfl ?_
          have ih := ih _ _ _ _ (by omega) ⟨i + 1, _, g5, g2, g3, g4, c5, c2, c3, c4, rfl, by omega, rfl, rfl, rfl, rfl⟩
          rw [hnxt] at ih
          simp only [if_true, if_neg (show ¬ (1 : Int) = 2 by decide), if_neg (show ¬ (1 : Int) = 3 by decide), if_neg (show ¬ (1 : Int) = 4 by decide), if_neg (show ¬ (1 : Int) = 5 by decide), List.append_nil, bkV, List.length_append, List.length_singleton, List.flatMap_append, List.flatMap_singleton] at ih
          exact At.weak ih ⟨rfl, rfl, rfl, rfl, rfl, some_int_eq (by omega), trivial⟩
        refine AtD.late 2 12 1 14 3 true [] [hB 0, hR [.int .i64 v0], hR [.int .i64 v1], hR [.int .i64 v2]] [hB 1] ⟨by kernel_rfl, by kernel_rfl, by kernel_rfl, rfl, by kernel_rfl, by kernel_rfl, rfl, rfl, by kernel_rfl⟩ rfl rfl rfl (by (repeat' apply And.intro) <;> first | exact rV 0 _ rfl | exact rV 1 _ rfl | exact rV 2 _ rfl | exact True.intro | omega | rfl | (simp only [inK]; omega) | exact decide_eq_true (by omega) | exact decide_eq_false (by omega) | (simp; done) | (simp; omega) | (simp [Value.oneCell']; done) | exact i64s_one _ | exact AggOk.mk (by kernel_rfl) (by kernel_rfl)) rfl rfl (by (repeat' apply And.intro) <;> first | exact True.intro | omega | (simp only [inK]; omega) | (simp; done) | (simp; omega) | exact decide_eq_true (by omega) | exact decide_eq_false (by omega) | rfl | (simp [Value.oneCell']; done) | exact i64s_one _ | exact AggOk.mk (by kernel_rfl) (by kernel_rfl)) ?_ ?_
        · refine AtD.fork1 14 (by kernel_rfl) (StepD.by [] rfl rfl rfl rfl trivial (OpOk.buildSlice rfl rfl rfl rfl rfl rfl rfl (fun bs hbs => ?_)))
          exact AtD.weak (hd bs) ⟨rfl, rfl, rfl, rfl, rfl, rfl, rfl, rfl, trivial⟩
        · refine StepD.by [] rfl rfl rfl rfl trivial (OpOk.buildSlice rfl rfl rfl rfl rfl rfl rfl (fun bs hbs => ?_))
          refine AtD.fork1 1 (by kernel_rfl) (StepD.by [] rfl rfl rfl rfl trivial (OpOk.one true [] [hB 2] rfl (by (repeat' apply And.intro) <;> first | exact True.intro | omega | (simp only [inK]; omega) | (simp; done) | (simp; omega) | exact decide_eq_true (by omega) | exact decide_eq_false (by omega) | rfl | (simp [Value.oneCell']; done) | exact i64s_one _ | exact AggOk.mk (by kernel_rfl) (by kernel_rfl)) ?_))
          exact AtD.weak (hd bs) ⟨rfl, rfl, rfl, rfl, rfl, rfl, rfl, rfl, trivial⟩
      · obtain ⟨v0, rfl⟩ : ∃ v0, xv = [v0] := by
          match xv, hlen with
          | [v0], _ => exact ⟨v0, rfl⟩
        refine At.run 100 true [false, true] [hB 0, hB 0, hL (.slice (some ⟨gv, ov, none⟩) 1 xc), hB 0] rfl (by (repeat' apply And.intro) <;> first | exact hLk | exact i64s_one [_, _, _] | exact True.intro | omega | rfl | (simp only [inK]; omega) | exact decide_eq_true (by omega) | exact decide_eq_false (by omega) | (simp; done) | (simp; omega) | (simp [Value.oneCell']; done) | exact i64s_one _ | exact AggOk.mk (by kernel_rfl) (by kernel_rfl)) ?_
        refine At.draw 14 rfl rfl rfl rfl ?_
        refine AtD.pures (ob := True) true (by kernel_rfl) [0] (fuel := 13) (by kernel_rfl) rfl (by (repeat' apply And.intro) <;> first | exact True.intro | omega | (simp only [inK]; omega) | (simp; done) | (simp; omega) | exact decide_eq_true (by omega) | exact decide_eq_false (by omega) | rfl | (simp [Value.oneCell']; done) | exact i64s_one _ | exact AggOk.mk (by kernel_rfl) (by kernel_rfl)) ?_
        refine AtD.cutS (ι := Nat) 3 #[true, true, true, true, true, true, true, true, true, true, true, false, false, false] (fun bs => [(54, sv g2 B.S.length c2), (63, .slice (some ⟨bs, 0, none⟩) 1 1), (0, .map (some m)), (2, .pointer (some ⟨b2, 0, none⟩)), (3, .pointer (some ⟨b3, 0, none⟩)), (21, sv (some g') ks.length c), (22, .int .i64 ks.length), (23, .int .i64 i)]) (fun bs => [(bs, 54, i64s [p, q, v0]), (b7, 62, i64s [2, p, q]), (b3, 27, bkV B ⟨svA g1, svA g2, svA g3, svA g4, c1, c2, c3, c4⟩), (b2, 27, bkV (bkOf []) ⟨none, none, none, none, 0, 0, 0, 0⟩)]) (fun _ => [Seg.row g1 52 4 B.H.length c1 (B.H.flatMap i64s), Seg.row g2 54 3 B.S.length c2 (B.S.flatMap i64s), Seg.row g3 57 6 B.O.length c3 (B.O.flatMap i64s), Seg.row g4 50 2 B.R.length c4 (B.R.flatMap i64s), Seg.row (some g') 62 3 ks.length c (KS.flatMap k3c)]) ?_ (fun hd => ?_)
        · intro bs
          refine AtD.fork1 11 (by kernel_rfl) (StepD.by [] rfl rfl rfl rfl trivial (OpOk.append 1 3 24 (i64s [p, q, v0]) rfl rfl rfl rfl rfl rfl rfl (RdW.blk0 (i := 0) rfl) rfl (i64s_one _) (by omega) (by omega) fun g5 c5 => ?_))
          refine AtD.pures (ob := True) true (by kernel_rfl) [12] (fuel := 1) (by kernel_rfl) rfl (by (repeat' apply And.intro) <;> first | exact True.intro | omega | (simp only [inK]; omega) | (simp; done) | (simp; omega) | exact decide_eq_true (by omega) | exact decide_eq_false (by omega) | rfl | (simp [Value.oneCell']; done) | exact i64s_one _ | exact AggOk.mk (by kernel_rfl) (by kernel_rfl)) ?_
          refine AtD.fork1 13 (by kernel_rfl) (StepD.by0 [] rfl rfl rfl trivial (OpOk.one true [] [hB 2] rfl (by (repeat' apply And.intro) <;> first | (simp [Value.oneCell', sv]; done) | exact True.intro | omega | rfl | (simp only [inK]; omega) | exact decide_eq_true (by omega) | exact decide_eq_false (by omega) | (simp; done) | (simp; omega) | (simp [Value.oneCell']; done) | exact i64s_one _ | exact AggOk.mk (by kernel_rfl) (by kernel_rfl)) ?_))
          refine AtD.done (by kernel_rfl) ?_
          refine At.run 100 true [] [] rfl (by (repeat' apply And.intro) <;> first | exact True.intro | omega | (simp only [inK]; omega) | (simp; done) | (simp; omega) | exact decide_eq_true (by omega) | exact decide_eq_false (by omega) | rfl | (simp [Value.oneCell']; done) | exact i64s_one _ | exact AggOk.mk (by kernel_rfl) (by kernel_rfl)) ?_
          refine At.keep [false, false, true, true] [true, true, true, true, true] rfl ?_
          have ih := ih _ _ _ _ (by omega) ⟨i + 1, _, g1, g5, g3, g4, c1, c5, c3, c4, rfl, by omega, rfl, rfl, rfl, rfl⟩
          rw [hnxt] at ih
          simp only [if_true, if_neg (show ¬ (2 : Int) = 1 by decide), if_neg (show ¬ (2 : Int) = 3 by decide), if_neg (show ¬ (2 : Int) = 4 by decide), if_neg (show ¬ (2 : Int) = 5 by decide), List.append_nil, bkV, List.length_append, List.length_singleton, List.flatMap_append, List.flatMap_singleton] at ih
          exact At.weak ih ⟨rfl, rfl, rfl, rfl, rfl, some_int_eq (by omega), trivial⟩
        refine AtD.late 2 8 1 10 3 true [] [hB 0, hB 0, hR [.int .i64 v0]] [hB 1] ⟨by kernel_rfl, by kernel_rfl, by kernel_rfl, rfl, by kernel_rfl, by kernel_rfl, rfl, rfl, by kernel_rfl⟩ rfl rfl rfl (by (repeat' apply And.intro) <;> first | exact rV 0 _ rfl | exact True.intro | omega | rfl | (simp only [inK]; omega) | exact decide_eq_true (by omega) | exact decide_eq_false (by omega) | (simp; done) | (simp; omega) | (simp [Value.oneCell']; done) | exact i64s_one _ | exact AggOk.mk (by kernel_rfl) (by kernel_rfl)) rfl rfl (by (repeat' apply And.intro) <;> first | exact True.intro | omega | (simp only [inK]; omega) | (simp; done) | (simp; omega) | exact decide_eq_true (by omega) | exact decide_eq_false (by omega) | rfl | (simp [Value.oneCell']; done) | exact i64s_one _ | exact AggOk.mk (by kernel_rfl) (by kernel_rfl)) ?_ ?_
        · refine AtD.fork1 10 (by kernel_rfl) (StepD.by [] rfl rfl rfl rfl trivial (OpOk.buildSlice rfl rfl rfl rfl rfl rfl rfl (fun bs hbs => ?_)))
          exact AtD.weak (hd bs) ⟨rfl, rfl, rfl, rfl, rfl, rfl, rfl, rfl, trivial⟩
        · refine StepD.by [] rfl rfl rfl rfl trivial (OpOk.buildSlice rfl rfl rfl rfl rfl rfl rfl (fun bs hbs => ?_))
          refine AtD.fork1 1 (by kernel_rfl) (StepD.by [] rfl rfl rfl rfl trivial (OpOk.one true [] [hB 2] rfl (by (repeat' apply And.intro) <;> first | exact True.intro | omega | (simp only [inK]; omega) | (simp; done) | (simp; omega) | exact decide_eq_true (by omega) | exact decide_eq_false (by omega) | rfl | (simp [Value.oneCell']; done) | exact i64s_one _ | exact AggOk.mk (by kernel_rfl) (by kernel_rfl)) ?_))
          exact AtD.weak (hd bs) ⟨rfl, rfl, rfl, rfl, rfl, rfl, rfl, rfl, trivial⟩
      · obtain ⟨v0, v1, v2, v3, v4, rfl⟩ : ∃ v0 v1 v2 v3 v4, xv = [v0, v1, v2, v3, v4] := by
          match xv, hlen with
          | [v0, v1, v2, v3, v4], _ => exact ⟨v0, v1, v2, v3, v4, rfl⟩
        refine At.run 100 true [false, false, true] [hB 0, hB 0, hL (.slice (some ⟨gv, ov, none⟩) 5 xc), hB 0] rfl (by (repeat' apply And.intro) <;> first | exact hLk | exact i64s_one [_, _, _] | exact True.intro | omega | rfl | (simp only [inK]; omega) | exact decide_eq_true (by omega) | exact decide_eq_false (by omega) | (simp; done) | (simp; omega) | (simp [Value.oneCell']; done) | exact i64s_one _ | exact AggOk.mk (by kernel_rfl) (by kernel_rfl)) ?_
        refine At.draw 24 rfl rfl rfl rfl ?_
        refine AtD.pures (ob := True) true (by kernel_rfl) [0] (fuel := 23) (by kernel_rfl) rfl (by (repeat' apply And.intro) <;> first | exact True.intro | omega | (simp only [inK]; omega) | (simp; done) | (simp; omega) | exact decide_eq_true (by omega) | exact decide_eq_false (by omega) | rfl | (simp [Value.oneCell']; done) | exact i64s_one _ | exact AggOk.mk (by kernel_rfl) (by kernel_rfl)) ?_
        refine AtD.cutS (ι := Nat) 3 #[true, true, true, true, true, true, true, true, true, true, true, true, true, true, true, true, true, true, true, true, true, false, false, false] (fun bs => [(69, sv g3 B.O.length c3), (88, .slice (some ⟨bs, 0, none⟩) 1 1), (0, .map (some m)), (2, .pointer (some ⟨b2, 0, none⟩)), (3, .pointer (some ⟨b3, 0, none⟩)), (21, sv (some g') ks.length c), (22, .int .i64 ks.length), (23, .int .i64 i)]) (fun bs => [(bs, 57, i64s [p, v0, v1, v2, v3, v4]), (b7, 62, i64s [3, p, q]), (b3, 27, bkV B ⟨svA g1, svA g2, svA g3, svA g4, c1, c2, c3, c4⟩), (b2, 27, bkV (bkOf []) ⟨none, none, none, none, 0, 0, 0, 0⟩)]) (fun _ => [Seg.row g1 52 4 B.H.length c1 (B.H.flatMap i64s), Seg.row g2 54 3 B.S.length c2 (B.S.flatMap i64s), Seg.row g3 57 6 B.O.length c3 (B.O.flatMap i64s), Seg.row g4 50 2 B.R.length c4 (B.R.flatMap i64s), Seg.row (some g') 62 3 ks.length c (KS.flatMap k3c)]) ?_ (fun hd => ?_)
        · intro bs
          refine AtD.fork1 21 (by kernel_rfl) (StepD.by [] rfl rfl rfl rfl trivial (OpOk.append 2 6 48 (i64s [p, v0, v1, v2, v3, v4]) rfl rfl rfl rfl rfl rfl rfl (RdW.blk0 (i := 0) rfl) rfl (i64s_one _) (by omega) (by omega) fun g5 c5 => ?_))
          refine AtD.pures (ob := True) true (by kernel_rfl) [22] (fuel := 1) (by kernel_rfl) rfl (by (repeat' apply And.intro) <;> first | exact True.intro | omega | (simp only [inK]; omega) | (simp; done) | (simp; omega) | exact decide_eq_true (by omega) | exact decide_eq_false (by omega) | rfl | (simp [Value.oneCell']; done) | exact i64s_one _ | exact AggOk.mk (by kernel_rfl) (by kernel_rfl)) ?_
          refine AtD.fork1 23 (by kernel_rfl) (StepD.by0 [] rfl rfl rfl trivial (OpOk.one true [] [hB 2] rfl (by (repeat' apply And.intro) <;> first | (simp [Value.oneCell', sv]; done) | exact True.intro | omega | rfl | (simp only [inK]; omega) | exact decide_eq_true (by omega) | exact decide_eq_false (by omega) | (simp; done) | (simp; omega) | (simp [Value.oneCell']; done) | exact i64s_one _ | exact AggOk.mk (by kernel_rfl) (by kernel_rfl)) ?_))
          refine AtD.done (by kernel_rfl) ?_
          refine At.run 100 true [] [] rfl (by (repeat' apply And.intro) <;> first | exact True.intro | omega | (simp only [inK]; omega) | (simp; done) | (simp; omega) | exact decide_eq_true (by omega) | exact decide_eq_false (by omega) | rfl | (simp [Value.oneCell']; done) | exact i64s_one _ | exact AggOk.mk (by kernel_rfl) (by kernel_rfl)) ?_
          refine At.keep [false, false, true, true] [true, true, true, true, true] rfl ?_
          have ih := ih _ _ _ _ (by omega) ⟨i + 1, _, g1, g2, g5, g4, c1, c2, c5, c4, rfl, by omega, rfl, rfl, rfl, rfl⟩
          rw [hnxt] at ih
          simp only [if_true, if_neg (show ¬ (3 : Int) = 1 by decide), if_neg (show ¬ (3 : Int) = 2 by decide), if_neg (show ¬ (3 : Int) = 4 by decide), if_neg (show ¬ (3 : Int) = 5 by decide), List.append_nil, bkV, List.length_append, List.length_singleton, List.flatMap_append, List.flatMap_singleton] at ih
          exact At.weak ih ⟨rfl, rfl, rfl, rfl, rfl, some_int_eq (by omega), trivial⟩
        refine AtD.late 2 18 1 20 3 true [] [hB 0, hR [.int .i64 v0], hR [.int .i64 v1], hR [.int .i64 v2], hR [.int .i64 v3], hR [.int .i64 v4]] [hB 1] ⟨by kernel_rfl, by kernel_rfl, by kernel_rfl, rfl, by kernel_rfl, by kernel_rfl, rfl, rfl, by kernel_rfl⟩ rfl rfl rfl (by (repeat' apply And.intro) <;> first | exact rV 0 _ rfl | exact rV 1 _ rfl | exact rV 2 _ rfl | exact rV 3 _ rfl | exact rV 4 _ rfl | exact True.intro | omega | rfl | (simp only [inK]; omega) | exact decide_eq_true (by omega) | exact decide_eq_false (by omega) | (simp; done) | (simp; omega) | (simp [Value.oneCell']; done) | exact i64s_one _ | exact AggOk.mk (by kernel_rfl) (by kernel_rfl)) rfl rfl (by (repeat' apply And.intro) <;> first | exact True.intro | omega | (simp only [inK]; omega) | (simp; done) | (simp; omega) | exact decide_eq_true (by omega) | exact decide_eq_false (by omega) | rfl | (simp [Value.oneCell']; done) | exact i64s_one _ | exact AggOk.mk (by kernel_rfl) (by kernel_rfl)) ?_ ?_
        · refine AtD.fork1 20 (by kernel_rfl) (StepD.by [] rfl rfl rfl rfl trivial (OpOk.buildSlice rfl rfl rfl rfl rfl rfl rfl (fun bs hbs => ?_)))
          exact AtD.weak (hd bs) ⟨rfl, rfl, rfl, rfl, rfl, rfl, rfl, rfl, trivial⟩
        · refine StepD.by [] rfl rfl rfl rfl trivial (OpOk.buildSlice rfl rfl rfl rfl rfl rfl rfl (fun bs hbs => ?_))
          refine AtD.fork1 1 (by kernel_rfl) (StepD.by [] rfl rfl rfl rfl trivial (OpOk.one true [] [hB 2] rfl (by (repeat' apply And.intro) <;> first | exact True.intro | omega | (simp only [inK]; omega) | (simp; done) | (simp; omega) | exact decide_eq_true (by omega) | exact decide_eq_false (by omega) | rfl | (simp [Value.oneCell']; done) | exact i64s_one _ | exact AggOk.mk (by kernel_rfl) (by kernel_rfl)) ?_))
          exact AtD.weak (hd bs) ⟨rfl, rfl, rfl, rfl, rfl, rfl, rfl, rfl, trivial⟩
      · obtain ⟨v0, rfl⟩ : ∃ v0, xv = [v0] := by
          match xv, hlen with
          | [v0], _ => exact ⟨v0, rfl⟩
        refine At.run 100 true [false, false, false, true] [hB 0, hB 0, hL (.slice (some ⟨gv, ov, none⟩) 1 xc), hB 0] rfl (by (repeat' apply And.intro) <;> first | exact hLk | exact i64s_one [_, _, _] | exact True.intro | omega | rfl | (simp only [inK]; omega) | exact decide_eq_true (by omega) | exact decide_eq_false (by omega) | (simp; done) | (simp; omega) | (simp [Value.oneCell']; done) | exact i64s_one _ | exact AggOk.mk (by kernel_rfl) (by kernel_rfl)) ?_
        refine At.draw 12 rfl rfl rfl rfl ?_
        refine AtD.pures (ob := True) true (by kernel_rfl) [0] (fuel := 11) (by kernel_rfl) rfl (by (repeat' apply And.intro) <;> first | exact True.intro | omega | (simp only [inK]; omega) | (simp; done) | (simp; omega) | exact decide_eq_true (by omega) | exact decide_eq_false (by omega) | rfl | (simp [Value.oneCell']; done) | exact i64s_one _ | exact AggOk.mk (by kernel_rfl) (by kernel_rfl)) ?_
        refine AtD.cutS (ι := Nat) 3 #[true, true, true, true, true, true, true, true, true, false, false, false] (fun bs => [(94, sv g4 B.R.length c4), (101, .slice (some ⟨bs, 0, none⟩) 1 1), (0, .map (some m)), (2, .pointer (some ⟨b2, 0, none⟩)), (3, .pointer (some ⟨b3, 0, none⟩)), (21, sv (some g') ks.length c), (22, .int .i64 ks.length), (23, .int .i64 i)]) (fun bs => [(bs, 50, i64s [p, v0]), (b7, 62, i64s [4, p, q]), (b3, 27, bkV B ⟨svA g1, svA g2, svA g3, svA g4, c1, c2, c3, c4⟩), (b2, 27, bkV (bkOf []) ⟨none, none, none, none, 0, 0, 0, 0⟩)]) (fun _ => [Seg.row g1 52 4 B.H.length c1 (B.H.flatMap i64s), Seg.row g2 54 3 B.S.length c2 (B.S.flatMap i64s), Seg.row g3 57 6 B.O.length c3 (B.O.flatMap i64s), Seg.row g4 50 2 B.R.length c4 (B.R.flatMap i64s), Seg.row (some g') 62 3 ks.length c (KS.flatMap k3c)]) ?_ (fun hd => ?_)
        · intro bs
          refine AtD.fork1 9 (by kernel_rfl) (StepD.by [] rfl rfl rfl rfl trivial (OpOk.append 3 2 16 (i64s [p, v0]) rfl rfl rfl rfl rfl rfl rfl (RdW.blk0 (i := 0) rfl) rfl (i64s_one _) (by omega) (by omega) fun g5 c5 => ?_))
          refine AtD.pures (ob := True) true (by kernel_rfl) [10] (fuel := 1) (by kernel_rfl) rfl (by (repeat' apply And.intro) <;> first | exact True.intro | omega | (simp only [inK]; omega) | (simp; done) | (simp; omega) | exact decide_eq_true (by omega) | exact decide_eq_false (by omega) | rfl | (simp [Value.oneCell']; done) | exact i64s_one _ | exact AggOk.mk (by kernel_rfl) (by kernel_rfl)) ?_
          refine AtD.fork1 11 (by kernel_rfl) (StepD.by0 [] rfl rfl rfl trivial (OpOk.one true [] [hB 2] rfl (by (repeat' apply And.intro) <;> first | (simp [Value.oneCell', sv]; done) | exact True.intro | omega | rfl | (simp only [inK]; omega) | exact decide_eq_true (by omega) | exact decide_eq_false (by omega) | (simp; done) | (simp; omega) | (simp [Value.oneCell']; done) | exact i64s_one _ | exact AggOk.mk (by kernel_rfl) (by kernel_rfl)) ?_))
          refine AtD.done (by kernel_rfl) ?_
          refine At.run 100 true [] [] rfl (by (repeat' apply And.intro) <;> first | exact True.intro | omega | (simp only [inK]; omega) | (simp; done) | (simp; omega) | exact decide_eq_true (by omega) | exact decide_eq_false (by omega) | rfl | (simp [Value.oneCell']; done) | exact i64s_one _ | exact AggOk.mk (by kernel_rfl) (by kernel_rfl)) ?_
          refine At.keep [false, false, true, true] [true, true, true, true, true] rfl ?_
          have ih := ih _ _ _ _ (by omega) ⟨i + 1, _, g1, g2, g3, g5, c1, c2, c3, c5, rfl, by omega, rfl, rfl, rfl, rfl⟩
          rw [hnxt] at ih
          simp only [if_true, if_neg (show ¬ (4 : Int) = 1 by decide), if_neg (show ¬ (4 : Int) = 2 by decide), if_neg (show ¬ (4 : Int) = 3 by decide), if_neg (show ¬ (4 : Int) = 5 by decide), List.append_nil, bkV, List.length_append, List.length_singleton, List.flatMap_append, List.flatMap_singleton] at ih
          exact At.weak ih ⟨rfl, rfl, rfl, rfl, rfl, some_int_eq (by omega), trivial⟩
        refine AtD.late 2 6 1 8 3 true [] [hB 0, hR [.int .i64 v0]] [hB 1] ⟨by kernel_rfl, by kernel_rfl, by kernel_rfl, rfl, by kernel_rfl, by kernel_rfl, rfl, rfl, by kernel_rfl⟩ rfl rfl rfl (by (repeat' apply And.intro) <;> first | exact rV 0 _ rfl | exact True.intro | omega | rfl | (simp only [inK]; omega) | exact decide_eq_true (by omega) | exact decide_eq_false (by omega) | (simp; done) | (simp; omega) | (simp [Value.oneCell']; done) | exact i64s_one _ | exact AggOk.mk (by kernel_rfl) (by kernel_rfl)) rfl rfl (by (repeat' apply And.intro) <;> first | exact True.intro | omega | (simp only [inK]; omega) | (simp; done) | (simp; omega) | exact decide_eq_true (by omega) | exact decide_eq_false (by omega) | rfl | (simp [Value.oneCell']; done) | exact i64s_one _ | exact AggOk.mk (by kernel_rfl) (by kernel_rfl)) ?_ ?_
        · refine AtD.fork1 8 (by kernel_rfl) (StepD.by [] rfl rfl rfl rfl trivial (OpOk.buildSlice rfl rfl rfl rfl rfl rfl rfl (fun bs hbs => ?_)))
          exact AtD.weak (hd bs) ⟨rfl, rfl, rfl, rfl, rfl, rfl, rfl, rfl, trivial⟩
        · refine StepD.by [] rfl rfl rfl rfl trivial (OpOk.buildSlice rfl rfl rfl rfl rfl rfl rfl (fun bs hbs => ?_))
          refine AtD.fork1 1 (by kernel_rfl) (StepD.by [] rfl rfl rfl rfl trivial (OpOk.one true [] [hB 2] rfl (by (repeat' apply And.intro) <;> first | exact True.intro | omega | (simp only [inK]; omega) | (simp; done) | (simp; omega) | exact decide_eq_true (by omega) | exact decide_eq_false (by omega) | rfl | (simp [Value.oneCell']; done) | exact i64s_one _ | exact AggOk.mk (by kernel_rfl) (by kernel_rfl)) ?_))
          exact AtD.weak (hd bs) ⟨rfl, rfl, rfl, rfl, rfl, rfl, rfl, rfl, trivial⟩
      · obtain ⟨v0, rfl⟩ : ∃ v0, xv = [v0] := by
          match xv, hlen with
          | [v0], _ => exact ⟨v0, rfl⟩
        refine At.run 100 true [false, false, false, false, true] [hB 0, hB 0, hL (.slice (some ⟨gv, ov, none⟩) 1 xc), hB 0, hR [.int .i64 v0], hB 1] rfl (by (repeat' apply And.intro) <;> first | exact hLk | exact i64s_one [_, _, _] | exact rV 0 _ rfl | exact True.intro | omega | rfl | (simp only [inK]; omega) | exact decide_eq_true (by omega) | exact decide_eq_false (by omega) | (simp; done) | (simp; omega) | (simp [Value.oneCell']; done) | exact i64s_one _ | exact AggOk.mk (by kernel_rfl) (by kernel_rfl)) ?_
        refine At.keep [false, true, true] [true, true, true, true, true] rfl ?_
        have ih := ih _ _ _ _ (by omega) ⟨i + 1, _, g1, g2, g3, g4, c1, c2, c3, c4, rfl, by omega, rfl, rfl, rfl, rfl⟩
        rw [hnxt] at ih
        simp only [if_true, if_neg (show ¬ (5 : Int) = 1 by decide), if_neg (show ¬ (5 : Int) = 2 by decide), if_neg (show ¬ (5 : Int) = 3 by decide), if_neg (show ¬ (5 : Int) = 4 by decide), List.append_nil, bkV] at ih
        exact At.weak ih ⟨rfl, rfl, rfl, rfl, rfl, some_int_eq (by omega), trivial⟩
    · rw [List.take_of_length_le (by omega)] at hB0
      subst hB0
      refine At.run 100 true [false] [hB 0, hB 1] rfl (by (repeat' apply And.intro) <;> first | exact AggOk.mk (by kernel_rfl) (by kernel_rfl) | exact True.intro | omega | rfl | (simp only [inK]; omega) | exact decide_eq_true (by omega) | exact decide_eq_false (by omega) | (simp; done) | (simp; omega) | (simp [Value.oneCell']; done) | exact i64s_one _ | exact AggOk.mk (by kernel_rfl) (by kernel_rfl)) ?_
      exact At.retK [] [true, true, true, true] [hB 1] rfl rfl Tryd.func28 rfl ⟨rfl, trivial⟩ ⟨rfl, ⟨g1, g2, g3, g4, c1, c2, c3, c4⟩, rfl, rfl⟩
  · have hil : i < T.length := by rw [← hes]; exact (Array.getElem?_eq_some_iff.1 he).1
    obtain ⟨x, hx⟩ : ∃ x, T[i]? = some x := ⟨_, List.getElem?_eq_getElem hil⟩
    have hee : (e.key, e.val) = PE.ent x := by
      have h1 : (es.toList.map fun e => (e.key, e.val))[i]? = some (e.key, e.val) := by rw [List.getElem?_map, Array.getElem?_toList, he]; rfl
      rw [hEs, List.getElem?_map, hx] at h1
      exact (Option.some.inj h1).symm
    obtain ⟨kk, v, born⟩ := e
    simp only [PE.ent, Prod.mk.injEq] at hee
    obtain ⟨rfl, rfl⟩ := hee
    simp only [setL]
    have hV' := lt_snoc hV hil
    have hn' := nodup_snoc hn hi
    refine At.run 100 true [true] [] rfl (by (repeat' apply And.intro) <;> first | exact True.intro | omega | (simp only [inK]; omega) | (simp; done) | (simp; omega) | exact decide_eq_true (by omega) | exact decide_eq_false (by omega) | rfl | (simp [Value.oneCell']; done) | exact i64s_one _ | exact AggOk.mk (by kernel_rfl) (by kernel_rfl)) ?_
    refine At.step [] rfl rfl rfl rfl rfl trivial (OpOk.entryMap (T := V) (i := i) 1 rfl rfl rfl (fun w' hw' => hmm w' hw') hst he ?_)
    simp only
    refine At.run 100 true [] [] rfl (by (repeat' apply And.intro) <;> first | exact True.intro | omega | (simp only [inK]; omega) | (simp; done) | (simp; omega) | exact decide_eq_true (by omega) | exact decide_eq_false (by omega) | rfl | (simp [Value.oneCell']; done) | exact i64s_one _ | exact AggOk.mk (by kernel_rfl) (by kernel_rfl)) ?_
    refine At.step [] rfl rfl rfl rfl rfl trivial (OpOk.alloc (cs := [.int .i64 0, .int .i64 0, .int .i64 0]) rfl (by kernel_rfl) fun b5 hb5 => ?_)
    refine At.run 100 true [] [hB 0, hB 0] rfl (by (repeat' apply And.intro) <;> first | exact i64s_one [_, _, _] | exact True.intro | omega | rfl | (simp only [inK]; omega) | exact decide_eq_true (by omega) | exact decide_eq_false (by omega) | (simp; done) | (simp; omega) | (simp [Value.oneCell']; done) | exact i64s_one _ | exact AggOk.mk (by kernel_rfl) (by kernel_rfl)) ?_
    refine At.append1 0 3 24 rfl rfl rfl rfl rfl rfl rfl rfl rfl trivial (fun _ => rfl) trivial rfl rfl rfl rfl rfl rfl rfl rfl (fun _ => rfl) (i64s_one [_, _, _]) (by omega) (by omega) (fun bb g2 c2 => ?_)
    refine At.run 100 true [] [] rfl (by (repeat' apply And.intro) <;> first | exact True.intro | omega | (simp only [inK]; omega) | (simp; done) | (simp; omega) | exact decide_eq_true (by omega) | exact decide_eq_false (by omega) | rfl | (simp [Value.oneCell']; done) | exact i64s_one _ | exact AggOk.mk (by kernel_rfl) (by kernel_rfl)) ?_
    refine At.keep [false, true, true] [true, true] rfl ?_
    have ih := ih _ _ _ _ (leftN_snoc hil hi) ⟨V ++ [i], g2, c2, rfl, hn', hV', rfl, rfl, rfl⟩
    rw [someP_snoc hx, k3_snoc, List.length_append, List.length_singleton] at ih
    exact At.weak ih ⟨rfl, rfl, rfl, rfl, rfl, trivial⟩
end Go.Proofs

/-
  Walks of layer 14's statements: the example, and the changes of any two books.
-/
namespace Go.Proofs
open Go Go.Eng
set_option maxRecDepth 100000
set_option maxHeartbeats 4000000
attribute [local irreducible] Tri

theorem Tryd.sl_of {S : Base} {bx : Bx} {hp : List Seg} {T : List YE} {w : World} (hw : WOk S bx hp w) (hm : Seg.pack (T.flatMap Tryd.yeB) [] ∈ hp) {x : YE} (hx : x ∈ T) : SlOk w (adE x) (i64s x.v) :=
  SlOk.blk ((hw.hp _ hm).1 (x.b, 2, i64s x.v) (List.mem_flatMap.2 ⟨x, hx, by simp [Tryd.yeB]⟩))
theorem Tryd.diffK_chl {S : Base} {bx : Bx} {hp : List Seg} {T U : List YE} {a b : Bk} {w : World} (hw : WOk S bx hp w) (hm1 : Seg.pack (T.flatMap Tryd.yeB) [] ∈ hp) (hm2 : Seg.pack (U.flatMap Tryd.yeB) [] ∈ hp) (hT : T.map YE.row = rowsB a) (hU : U.map YE.row = rowsB b) (hia : BkIn a) (hib : BkIn b) (ks : List K3T) : ChL w (diffK T U ks) := by
  intro e he
  unfold diffK at he
  obtain ⟨k, -, rfl⟩ := List.mem_map.1 he
  have h1 := getT_len hT hia k
  have h2 := getT_len hU hib k
  exact ⟨Tryd.val_sl hw hm1 k, Tryd.val_sl hw hm2 k, by show (getT T k).length ≤ _; omega, by show (getT U k).length ≤ _; omega⟩
theorem mgE_from : ∀ (T U : List YE) (e : ChE), e ∈ mgE T U → (e.was = [] ∨ ∃ x, x ∈ T ∧ e.was = x.v ∧ e.wa = adE x) ∧ (e.is = [] ∨ ∃ y, y ∈ U ∧ e.is = y.v ∧ e.ia = adE y) := by
  intro T U
  have up : ∀ {T U T' U' : List YE} {e : ChE}, (∀ x, x ∈ T → x ∈ T') → (∀ x, x ∈ U → x ∈ U') → ((e.was = [] ∨ ∃ x, x ∈ T ∧ e.was = x.v ∧ e.wa = adE x) ∧ (e.is = [] ∨ ∃ y, y ∈ U ∧ e.is = y.v ∧ e.ia = adE y)) →
      ((e.was = [] ∨ ∃ x, x ∈ T' ∧ e.was = x.v ∧ e.wa = adE x) ∧ (e.is = [] ∨ ∃ y, y ∈ U' ∧ e.is = y.v ∧ e.ia = adE y)) := by
    rintro T U T' U' e h1 h2 ⟨h3, h4⟩
    refine ⟨?_, ?_⟩
    · rcases h3 with h | ⟨x, h, g⟩
      · exact .inl h
      · exact .inr ⟨x, h1 x h, g⟩
    · rcases h4 with h | ⟨x, h, g⟩
      · exact .inl h
      · exact .inr ⟨x, h2 x h, g⟩
  fun_induction mgE T U with
  | case1 => intro e he; cases he
  | case2 x T ih =>
    intro e he
    rcases List.mem_cons.1 he with rfl | he
    · exact ⟨.inr ⟨x, List.mem_cons_self .., rfl, rfl⟩, .inl rfl⟩
    · exact up (fun _ h => List.mem_cons_of_mem _ h) (fun _ h => h) (ih e he)
  | case3 y U ih =>
    intro e he
    rcases List.mem_cons.1 he with rfl | he
    · exact ⟨.inl rfl, .inr ⟨y, List.mem_cons_self .., rfl, rfl⟩⟩
    · exact up (fun _ h => h) (fun _ h => List.mem_cons_of_mem _ h) (ih e he)
  | case4 x T y U h1 ih =>
    intro e he
    rcases List.mem_cons.1 he with rfl | he
    · exact ⟨.inr ⟨x, List.mem_cons_self .., rfl, rfl⟩, .inl rfl⟩
    · exact up (fun _ h => List.mem_cons_of_mem _ h) (fun _ h => h) (ih e he)
  | case5 x T y U h1 h2 ih =>
    intro e he
    rcases List.mem_cons.1 he with rfl | he
    · exact ⟨.inl rfl, .inr ⟨y, List.mem_cons_self .., rfl, rfl⟩⟩
    · exact up (fun _ h => h) (fun _ h => List.mem_cons_of_mem _ h) (ih e he)
  | case6 x T y U h1 h2 ih =>
    intro e he
    rcases List.mem_append.1 he with he | he
    · split at he
      · cases he
      · rw [List.mem_singleton] at he
        subst he
        exact ⟨.inr ⟨x, List.mem_cons_self .., rfl, rfl⟩, .inr ⟨y, List.mem_cons_self .., rfl, rfl⟩⟩
    · exact up (fun _ h => List.mem_cons_of_mem _ h) (fun _ h => List.mem_cons_of_mem _ h) (ih e he)
theorem Tryd.mgE_chl {S : Base} {bx : Bx} {hp : List Seg} {T U : List YE} {a b : Bk} {w : World} (hw : WOk S bx hp w) (hm1 : Seg.pack (T.flatMap Tryd.yeB) [] ∈ hp) (hm2 : Seg.pack (U.flatMap Tryd.yeB) [] ∈ hp) (hT : T.map YE.row = rowsB a) (hU : U.map YE.row = rowsB b) (hia : BkIn a) (hib : BkIn b) : ChL w (mgE T U) := by
  intro e he
  have lt : ∀ x, x ∈ T → x.v.length ≤ 5 := fun x hx => (rowsB_in hia x.row (by rw [← hT]; exact List.mem_map_of_mem hx)).len
  have lu : ∀ x, x ∈ U → x.v.length ≤ 5 := fun x hx => (rowsB_in hib x.row (by rw [← hU]; exact List.mem_map_of_mem hx)).len
  obtain ⟨h1, h2⟩ := mgE_from T U e he
  have g1 : SlOk w e.wa (i64s e.was) ∧ e.was.length ≤ 5 := by
    rcases h1 with h | ⟨x, hx, e1, e2⟩
    · rw [h]; exact ⟨.inl rfl, by simp⟩
    · rw [e1, e2]; exact ⟨Tryd.sl_of hw hm1 hx, lt x hx⟩
  have g2 : SlOk w e.ia (i64s e.is) ∧ e.is.length ≤ 5 := by
    rcases h2 with h | ⟨x, hx, e1, e2⟩
    · rw [h]; exact ⟨.inl rfl, by simp⟩
    · rw [e1, e2]; exact ⟨Tryd.sl_of hw hm2 hx, lu x hx⟩
  exact ⟨g1.1, g2.1, by have := g1.2; omega, by have := g2.2; omega⟩
theorem mgE_len : ∀ (T U : List YE), (mgE T U).length ≤ T.length + U.length := by
  intro T U
  fun_induction mgE T U with
  | case1 => simp
  | case2 x T ih => simp only [List.length_cons, List.length_nil] at *; omega
  | case3 y U ih => simp only [List.length_cons, List.length_nil] at *; omega
  | case4 x T y U h1 ih => simp only [List.length_cons] at *; omega
  | case5 x T y U h1 h2 ih => simp only [List.length_cons] at *; omega
  | case6 x T y U h1 h2 ih =>
    rw [List.length_append]
    simp only [List.length_cons] at *
    split <;> simp <;> omega

def bk0 : Bk := ⟨[], [], [], [], 0⟩
def bk1 : Bk := ⟨[], [], [], [[3, 10]], 0⟩
theorem bk0_in : BkIn bk0 := ⟨fun x hx => by simp [bk0] at hx, fun x hx => by simp [bk0] at hx, fun x hx => by simp [bk0] at hx, fun x hx => by simp [bk0] at hx, by simp [bk0], by simp [bk0], by simp [bk0], by simp [bk0], by simp [bk0, inK]⟩
theorem bk1_in : BkIn bk1 := ⟨fun x hx => by simp [bk1] at hx, fun x hx => by simp [bk1] at hx, fun x hx => by simp [bk1] at hx, fun x hx => by
  simp only [bk1, List.mem_singleton] at hx; subst hx; exact ⟨rfl, fun y hy => by simp at hy; rcases hy with rfl | rfl <;> simp [inK]⟩, by simp [bk1], by simp [bk1], by simp [bk1], by simp [bk1], by simp [bk1, inK]⟩
theorem bk01 {T U : List YE} (hT : T.map YE.row = rowsB bk0) (hU : U.map YE.row = rowsB bk1) : (diffK T U (sort3 (keysT T U))).map chP = [((4, 3, 0), [], [10])] := by
  rw [diffK_eq (YOk.of hT (rowsB_ok bk0_in (by decide))) (YOk.of hU (rowsB_ok bk1_in (by decide)))]
  obtain ⟨x, rfl⟩ : ∃ x, T = [x] := by
    have h := congrArg List.length hT
    rcases T with _ | ⟨x, _ | ⟨y, T⟩⟩
    · simp [rowsB, bk0] at h
    · exact ⟨x, rfl⟩
    · simp [rowsB, bk0] at h
  obtain ⟨y, z, rfl⟩ : ∃ y z, U = [y, z] := by
    have h := congrArg List.length hU
    rcases U with _ | ⟨x, _ | ⟨y, _ | ⟨z, U⟩⟩⟩
    · simp [rowsB, bk1] at h
    · simp [rowsB, bk1] at h
    · exact ⟨x, y, rfl⟩
    · simp [rowsB, bk1] at h
  simp [rowsB, bk0, bk1, YE.row, r1, k0] at hT hU
  obtain ⟨hx, hxv⟩ := hT
  obtain ⟨⟨hy, hyv⟩, hz, hzv⟩ := hU
  rw [mgE, if_neg (by rw [hx, hy]; decide), if_pos (by rw [hx, hy]; decide), mgE, if_neg (by rw [hx, hz]; decide), if_neg (by rw [hx, hz]; decide), if_pos (by rw [hxv, hzv]), mgE]
  simp [chP, chI, hy, hyv]

def e01 (g : Nat) : ChE := ⟨(4, 3, 0), [], none, 0, [10], some ⟨g, 0, none⟩, 1⟩
theorem Tryd.alive14_w (w : World) : Fun Tryd.prog 5 [] w (.bool true) := by
  refine Tri.enter (bx := []) (hp := []) Tryd.func5 rfl (by kernel_rfl) rfl (Own.nil w) ?_
  refine At.run 100 true [] [] rfl (by (repeat' apply And.intro) <;> first | exact True.intro | omega | (simp only [inK]; omega) | (simp; done) | (simp; omega) | exact decide_eq_true (by omega) | exact decide_eq_false (by omega) | rfl | (simp [Value.oneCell']; done) | exact i64s_one _ | exact AggOk.mk (by kernel_rfl) (by kernel_rfl)) ?_
  refine At.step [] rfl rfl rfl rfl rfl trivial (OpOk.buildSlice rfl rfl rfl rfl rfl rfl rfl (fun bs hbs => ?_))
  refine At.run 100 true [] [] rfl (by (repeat' apply And.intro) <;> first | exact True.intro | omega | (simp only [inK]; omega) | (simp; done) | (simp; omega) | exact decide_eq_true (by omega) | exact decide_eq_false (by omega) | rfl | (simp [Value.oneCell']; done) | exact i64s_one _ | exact AggOk.mk (by kernel_rfl) (by kernel_rfl)) ?_
  refine At.step [] rfl rfl rfl rfl rfl trivial (OpOk.call (Q := Tryd.DiffR bk0 bk1) rfl (fun w' hw' => Tryd.Diff_w bk0 bk1 ⟨none, none, none, none, 0, 0, 0, 0⟩ ⟨none, none, none, some ⟨bs, 0, none⟩, 0, 0, 0, 1⟩ w' bk0_in bk1_in ⟨.inl rfl, .inl rfl, .inl rfl, .inl rfl⟩ ⟨.inl rfl, .inl rfl, .inl rfl, SlOk.blk (hw'.bx (bs, 50, i64s [3, 10]) (List.mem_cons_self ..))⟩) ?_)
  rintro v bx' hp' ⟨rfl, hR⟩
  rw [if_pos ⟨by decide, by decide⟩] at hR
  obtain ⟨T, U, g1, c1, hT, hU, rfl, rfl⟩ := hR
  have hD := bk01 hT hU
  generalize hDd : diffK T U (sort3 (keysT T U)) = D at *
  have hDl : D.length = 1 := by have := congrArg List.length hD; simpa using this
  refine At.run 100 true [true] [] rfl (by (repeat' apply And.intro) <;> first | exact True.intro | omega | (simp only [inK]; omega) | (simp; done) | (simp; omega) | exact decide_eq_true (by omega) | exact decide_eq_false (by omega) | rfl | (simp [Value.oneCell']; done) | exact i64s_one _ | exact AggOk.mk (by kernel_rfl) (by kernel_rfl)) ?_
  refine At.step [true] rfl rfl rfl rfl rfl rfl (OpOk.call rfl (fun w' hw' => Tryd.Plain_w D (svA g1) c1 w' (by omega) (SlOk.row (hw'.hp _ (List.mem_cons_self ..)))) ?_)
  rintro v bx' hp' ⟨rfl, g2, c2, rfl, rfl⟩
  refine At.run 100 true [true] [] rfl (by (repeat' apply And.intro) <;> first | exact True.intro | omega | (simp only [inK]; omega) | (simp; done) | (simp; omega) | exact decide_eq_true (by omega) | exact decide_eq_false (by omega) | rfl | (simp [Value.oneCell']; done) | exact i64s_one _ | exact AggOk.mk (by kernel_rfl) (by kernel_rfl)) ?_
  refine At.step [true] rfl rfl rfl rfl rfl rfl (OpOk.buildSlice rfl rfl rfl rfl rfl rfl rfl (fun b1 hb1 => ?_))
  refine At.run 100 true [true] [] rfl (by (repeat' apply And.intro) <;> first | exact True.intro | omega | (simp only [inK]; omega) | (simp; done) | (simp; omega) | exact decide_eq_true (by omega) | exact decide_eq_false (by omega) | rfl | (simp [Value.oneCell']; done) | exact i64s_one _ | exact AggOk.mk (by kernel_rfl) (by kernel_rfl)) ?_
  refine At.step [true] rfl rfl rfl rfl rfl rfl (OpOk.buildSlice rfl rfl rfl rfl rfl rfl rfl (fun b2 hb2 => ?_))
  have hS : CallOb Tryd.prog ⟨w, kys [] []⟩ [(b2, 46, chC (e01 b1)), (b1, 2, i64s [10]), (bs, 50, i64s [3, 10])] [Seg.row g2 46 5 D.length c2 (D.flatMap chC), Seg.row g1 67 5 D.length c1 (D.flatMap chC), Seg.pack (T.flatMap Tryd.yeB) [], Seg.pack (U.flatMap Tryd.yeB) []] 16 [sv g2 D.length c2, .slice (some ⟨b2, 0, none⟩) 1 1] (.bool true) := fun w' hw' => by
    have := Tryd.rSame14_w D [e01 b1] (svA g2) (some ⟨b2, 0, none⟩) c2 1 w' (by omega) (by simp) (SlOk.row (hw'.hp _ (List.mem_cons_self ..))) (SlOk.blk (hw'.bx (b2, 46, chC (e01 b1)) (List.mem_cons_self ..)))
      (by rw [← hDd]; exact Tryd.diffK_chl hw' (by simp) (by simp) hT hU bk0_in bk1_in _)
      (fun e he => by rw [List.mem_singleton] at he; subst he; exact ⟨.inl rfl, SlOk.blk (hw'.bx (b1, 2, i64s [10]) (by simp)), by simp [e01], by simp [e01]⟩)
    rw [hD, show [e01 b1].map chP = [((4, 3, 0), [], [10])] from rfl, decide_eq_true rfl] at this
    exact this
  refine At.run 100 true [true, true] [hC (.bool true)] rfl (by (repeat' apply And.intro) <;> first | exact hS | exact True.intro | omega | rfl | (simp only [inK]; omega) | exact decide_eq_true (by omega) | exact decide_eq_false (by omega) | (simp; done) | (simp; omega) | (simp [Value.oneCell']; done) | exact i64s_one _ | exact AggOk.mk (by kernel_rfl) (by kernel_rfl)) ?_
  exact At.retK [] [] [] rfl rfl Tryd.func5 rfl trivial ⟨rfl, rfl, rfl⟩

end Go.Proofs

/-
  Walks of layer 14: a book patched.
-/
namespace Go.Proofs
open Go Go.Eng
set_option maxRecDepth 100000
set_option maxHeartbeats 4000000
attribute [local irreducible] Tri

theorem rowsF_row {T : List PE} {f : FunT} (h : TabR (T.map PE.row) f) : rowsF f (T.map (·.k)) = T.map PE.row := by
  unfold rowsF
  rw [List.map_map]
  refine List.map_congr_left fun x hx => ?_
  have := ((h.iff x.k x.v).1 (List.mem_map.2 ⟨x, hx, rfl⟩)).1
  show (x.k, f x.k) = (x.k, x.v)
  rw [this]
theorem keys_row (T : List PE) : (T.map PE.row).map (·.1) = T.map (·.k) := by rw [List.map_map]; rfl
theorem laid_isBk {T : List PE} {f : FunT} (h : TabR (T.map PE.row) f) (hl : T.length ≤ 1048576) (hc : f (5, 0, 0) ≠ []) : IsBk f (bkOf (rowsF f (sort3 (T.map (·.k))))) := by
  have hnd : (T.map (·.k)).Nodup := by rw [← keys_row]; exact h.nd
  refine isBk_of h (RS := rowsF f (sort3 (T.map (·.k)))) ?_ ?_ (by rw [List.length_map]; exact hl) hc
  · rw [← rowsF_row h]
    exact (List.mergeSort_perm _ _).map _
  · unfold rowsF
    rw [List.pairwise_map]
    exact sort3_ris hnd
/-- Changes whose numbers are of 64 bits. -/
def ChI (L : List ChE) : Prop := ∀ e, e ∈ L → In3 e.k ∧ ∀ x, x ∈ e.is → inK .i64 x
theorem mayC_wf {e : ChP} (h : mayC e = true) (hk : In3 e.1) (hv : ∀ x, x ∈ e.2.2 → inK .i64 x) (hne : e.2.2 ≠ []) : RowWf (e.1, e.2.2) := by
  simp only [mayC, Bool.and_eq_true, decide_eq_true_eq] at h
  obtain ⟨⟨h1, h2, h3, h4, h5⟩, h6, h7⟩ := h
  have hlen : e.2.2.length = widN e.1.1 := by
    unfold valuesB at h7
    rw [if_neg hne, Bool.and_eq_true, decide_eq_true_eq] at h7
    exact h7.1
  exact ⟨h1, h2, hk.2.1, hk.2.2, hv, hlen, h4, h5⟩
theorem mayC_del {e : ChP} (h : mayC e = true) (hne : e.2.2 = []) : e.1.1 ≠ 5 := by
  simp only [mayC, Bool.and_eq_true, decide_eq_true_eq] at h
  have h7 := h.2.2
  unfold valuesB at h7
  rw [if_pos hne, decide_eq_true_eq] at h7
  exact h7

theorem chkP_cons (f : FunT) (e : ChP) (l : List ChP) : chkP f (e :: l) = if f e.1 = e.2.1 then chkP (upd f e.1 e.2.2) l else none := rfl
def errB (n : Int) : Value := .tuple #[.agg ⟨bkV ⟨[], [], [], [], 0⟩ ⟨none, none, none, none, 0, 0, 0, 0⟩⟩, .int .i64 n]
/-- What a patch answers. -/
def Tryd.PatchR (a : Bk) (l : List ChP) (v : Value) (bx : Bx) (hp : List Seg) : Prop := bx = [] ∧ (
    (mayB a = false ∧ v = errB 1 ∧ hp = []) ∨
    (mayB a = true ∧ rightB l = false ∧ v = errB 3 ∧ hp = []) ∨
    (mayB a = true ∧ rightB l = true ∧ chkP (valB a) l = none ∧ v = errB 7 ∧ hp = []) ∨
    (∃ f b, mayB a = true ∧ rightB l = true ∧ chkP (valB a) l = some f ∧ IsBk f b ∧ ((mayB b = false ∧ v = errB 1 ∧ hp = []) ∨ (mayB b = true ∧ ∃ q : BkQ, v = .tuple #[.agg ⟨bkV b q.A⟩, .int .i64 0] ∧ hp = Tryd.bkHp b q))))

theorem Tryd.Patch_w (a : Bk) (A : BkA) (L : List ChE) (la : Option Addr) (lc : Nat) (w : World) (hi : BkIn a) (ho : BkOk w a A) (hl : SlOk w la (L.flatMap chC)) (hLs : ChL w L) (hI : ChI L) (hsz : (rowsB a).length + L.length ≤ 1048576) (hW : Tryd.Wid w) :
    Tri Tryd.prog 9 [.agg ⟨bkV a A⟩, .slice la L.length lc] w [] (Tryd.PatchR a (L.map chP)) := by
  refine Tri.enter (bx := []) (hp := []) Tryd.func9 rfl (by kernel_rfl) rfl (Own.nil w) ?_
  have hm0 : ∀ k, k ∉ (⟨w, kys [] []⟩ : Base).mods := by simp [kys]
  have hMa : ∀ {bx : Bx} {hp : List Seg}, CallOb Tryd.prog ⟨w, kys [] []⟩ bx hp 21 [.agg ⟨bkV a A⟩] (.bool (mayB a)) := fun {_ _} w' hw' => Tryd.May_w a A w' hi (ho.ext hw'.ext (by simp [kys]))
  have hRt : ∀ {bx : Bx} {hp : List Seg}, CallOb Tryd.prog ⟨w, kys [] []⟩ bx hp 26 [.slice la L.length lc] (.bool (rightB (L.map chP))) := fun {_ _} w' hw' => Tryd.right_w L la lc w' (by omega) (hl.ext hw'.ext (by simp [kys])) (hLs.ext hw'.ext (by simp [kys])) (Tryd.Wid.ext hW hw'.ext (by simp [kys]))
  refine At.run 100 true [] [] rfl trivial ?_
  refine At.step [] rfl rfl rfl rfl rfl trivial (OpOk.box rfl rfl rfl fun bq hbq => ?_)
  refine At.step [] rfl rfl rfl rfl rfl trivial (OpOk.alloc (cs := [.slice none 0 0, .slice none 0 0, .slice none 0 0, .slice none 0 0, .int .i64 0]) rfl (by kernel_rfl) fun b4 hb4 => ?_)
  cases ha : mayB a with
  | false =>
    rw [ha] at hMa
    refine At.run 100 true [true] [hB 1, hC (.bool false), hB 0] rfl (by (repeat' apply And.intro) <;> first | exact hMa | exact True.intro | omega | rfl | (simp only [inK]; omega) | exact decide_eq_true (by omega) | exact decide_eq_false (by omega) | (simp; done) | (simp; omega) | (simp [Value.oneCell']; done) | exact i64s_one _ | exact AggOk.mk (by kernel_rfl) (by kernel_rfl)) ?_
    exact At.retK [] [] [hB 0] rfl rfl Tryd.func9 rfl ⟨rfl, trivial⟩ ⟨rfl, .inl ⟨ha, rfl, rfl⟩⟩
  | true =>
  rw [ha] at hMa
  cases hr : rightB (L.map chP) with
  | false =>
    rw [hr] at hRt
    refine At.run 100 true [false, true] [hB 1, hC (.bool true), hC (.bool false), hB 0] rfl (by (repeat' apply And.intro) <;> first | exact hMa | exact hRt | exact True.intro | omega | rfl | (simp only [inK]; omega) | exact decide_eq_true (by omega) | exact decide_eq_false (by omega) | (simp; done) | (simp; omega) | (simp [Value.oneCell']; done) | exact i64s_one _ | exact AggOk.mk (by kernel_rfl) (by kernel_rfl)) ?_
    exact At.retK [] [] [hB 0] rfl rfl Tryd.func9 rfl ⟨rfl, trivial⟩ ⟨rfl, .inr (.inl ⟨ha, hr, rfl, rfl⟩)⟩
  | true =>
  rw [hr] at hRt
  have hrp := rightB_iff.1 hr
  have hla : listsB a = true := by simp only [mayB, Bool.and_eq_true] at ha; exact ha.1
  refine At.run 100 true [false, false] [hB 1, hC (.bool true), hC (.bool true), hB 1] rfl (by (repeat' apply And.intro) <;> first | exact hMa | exact hRt | exact True.intro | omega | rfl | (simp only [inK]; omega) | exact decide_eq_true (by omega) | exact decide_eq_false (by omega) | (simp; done) | (simp; omega) | (simp [Value.oneCell']; done) | exact i64s_one _ | exact AggOk.mk (by kernel_rfl) (by kernel_rfl)) ?_
  refine At.step [] rfl rfl rfl rfl rfl trivial (OpOk.call rfl (fun w' hw' => Tryd.table_w a A w' hi (ho.ext hw'.ext (by simp [kys])) hla) ?_)
  rintro v bx' hp' ⟨m, T, rfl, rfl, rfl, hT⟩
  refine At.run 100 true [] [] rfl (by (repeat' apply And.intro) <;> first | exact True.intro | omega | (simp only [inK]; omega) | (simp; done) | (simp; omega) | exact decide_eq_true (by omega) | exact decide_eq_false (by omega) | rfl | (simp [Value.oneCell']; done) | exact i64s_one _ | exact AggOk.mk (by kernel_rfl) (by kernel_rfl)) ?_
  refine At.reshape (fun w' hw' => Tryd.split_tab hw') ?_
  refine At.order (br := [(b4, 27, [.slice none 0 0, .slice none 0 0, .slice none 0 0, .slice none 0 0, .int .i64 0]), (bq, 27, bkV a A)]) (hr := [Seg.mapQ m K3 ((T.map PE.of).map PE.ent), Seg.pack (T.flatMap Tryd.yeB) []]) [] [1] rfl (by rw [PE.of_ent]; rfl) ?_
  have hTl : T.length = (rowsB a).length := by have := congrArg List.length hT; simpa using this
  have hT0 : TabR ((T.map PE.of).map PE.row) (valB a) := by rw [PE.of_row, hT]; exact tabB hi hla
  refine At.loop (n := L.length) (env0 := [(1, .slice la L.length lc), (2, .pointer (some ⟨bq, 0, none⟩)), (4, .pointer (some ⟨b4, 0, none⟩)), (6, .map (some m)), (20, .slice la L.length lc), (21, .int .i64 L.length), (22, .int .i64 0)]) (fun n env bx hp => ∃ (i : Nat) (PT : List PE) (f : FunT), n = L.length - i ∧ i ≤ L.length ∧ TabR (PT.map PE.row) f ∧ chkP (valB a) (L.map chP) = chkP f ((L.map chP).drop i) ∧ PT.length ≤ T.length + i ∧ f (5, 0, 0) ≠ [] ∧ (∀ x, x ∈ PT → (x ∈ T.map PE.of ∨ ∃ e, e ∈ L ∧ x = ⟨e.k, e.is, e.ia, e.ic⟩)) ∧
    env = [(1, .slice la L.length lc), (2, .pointer (some ⟨bq, 0, none⟩)), (4, .pointer (some ⟨b4, 0, none⟩)), (6, .map (some m)), (20, .slice la L.length lc), (21, .int .i64 L.length), (22, .int .i64 i)] ∧ bx = [(b4, 27, [.slice none 0 0, .slice none 0 0, .slice none 0 0, .slice none 0 0, .int .i64 0]), (bq, 27, bkV a A)] ∧ hp = [Seg.mapQ m K3 (PT.map PE.ent), Seg.pack (T.flatMap Tryd.yeB) []]) rfl
    ⟨0, T.map PE.of, valB a, by simp, by omega, hT0, rfl, by simp, by rw [valB_c hi hla]; simp, fun x hx => .inl hx, rfl, rfl, rfl⟩ ⟨rfl, rfl, rfl, rfl, rfl, rfl, rfl, trivial⟩ ?_
  rintro n env bx hp ⟨i, PT, f, rfl, hi2, hTab, hchk, hPl, hf5, hsrc, rfl, rfl, rfl⟩ ih
  have hSl : ∀ {bx : Bx} {s : Seg} {w' : World}, WOk ⟨w, kys [] []⟩ bx [s, Seg.pack (T.flatMap Tryd.yeB) []] w' → ∀ x, x ∈ PT → SlOk w' x.a (i64s x.v) := fun {_ _ w'} hw' x hx => by
    rcases hsrc x hx with h | ⟨e, he, rfl⟩
    · obtain ⟨y, hy, rfl⟩ := List.mem_map.1 h
      exact Tryd.sl_of hw' (by simp) hy
    · exact (hLs e he).2.1.ext hw'.ext (by simp [kys])
  by_cases hlt : i < L.length
  · obtain ⟨e, hx⟩ : ∃ e, L[i]? = some e := ⟨_, List.getElem?_eq_getElem hlt⟩
    have hmem := List.mem_of_getElem? hx
    have hxP : (L.map chP)[i]? = some (chP e) := by rw [List.getElem?_map, hx]; rfl
    have hmay : mayC (chP e) = true := hrp.may _ (List.mem_of_getElem? hxP)
    obtain ⟨hkin, hvin⟩ := hI e hmem
    obtain ⟨x1, x2, x3, x4⟩ := hLs e hmem
    obtain ⟨g, o, rfl, hc⟩ := hl.get (chC_ne hx)
    have rX : ∀ {bx : Bx} {hp : List Seg}, RdW ⟨w, kys [] []⟩ bx hp g (o + (i : Int).toNat * 5) (chC e) := fun {_ _} => RdW.chE hc (hm0 _) hx (by simp)
    have hK : ∀ {bx : Bx} {hp : List Seg}, CallOb Tryd.prog ⟨w, kys [] []⟩ bx hp 27 [.agg ⟨chC e⟩] (key3 e.k) := fun {_ _} w' _ => Tryd.key_w e w'
    rw [drop_at hxP, chkP_cons] at hchk
    obtain ⟨av, cv, hLk, hsl⟩ : ∃ av cv, (∀ {bx : Bx}, LookOb Tryd.prog ⟨w, kys [] []⟩ bx [Seg.mapQ m K3 (PT.map PE.ent), Seg.pack (T.flatMap Tryd.yeB) []] 58 (.map (some m)) (key3 e.k) false (.slice av (f e.k).length cv)) ∧ (∀ {bx : Bx} {s : Seg} {w' : World}, WOk ⟨w, kys [] []⟩ bx [s, Seg.pack (T.flatMap Tryd.yeB) []] w' → SlOk w' av (i64s (f e.k))) := by
      by_cases hne : f e.k = []
      · refine ⟨none, 0, fun {_} => ?_, fun {_ _ w'} _ => .inl (by rw [hne]; rfl)⟩
        rw [hne]
        refine LookOb.missQ false Tryd.tableT Tryd.keyK (fun w => Tryd.zeroI64 w) (fun w' hw' => hw'.hp (Seg.mapQ m K3 (PT.map PE.ent)) (by simp)) ⟨e.k, rfl, hkin⟩ (fun p hp e2 => ?_)
        obtain ⟨z, hz, rfl⟩ := List.mem_map.1 hp
        exact hTab.miss hne z.row (List.mem_map_of_mem hz) (key3_inj e2)
      · obtain ⟨j, hj⟩ := hTab.find hne
        rw [List.getElem?_map] at hj
        obtain ⟨z, hz, hze⟩ := Option.map_eq_some_iff.1 hj
        have h1 : z.k = e.k := congrArg Prod.fst hze
        have h2 : z.v = f e.k := congrArg Prod.snd hze
        refine ⟨z.a, z.c, fun {_} => ?_, fun {_ _ w'} hw' => by rw [← h2]; exact hSl hw' z (List.mem_of_getElem? hz)⟩
        exact LookOb.hitQ false Tryd.tableT Tryd.keyK (fun w' hw' => hw'.hp (Seg.mapQ m K3 (PT.map PE.ent)) (by simp)) ⟨e.k, rfl, hkin⟩ (i := j) (by rw [List.getElem?_map, hz]; simp [PE.ent, h1, h2])
    have hflen : (f e.k).length ≤ 5 := by
      by_cases hne : f e.k = []
      · rw [hne]; simp
      · have := (hTab.wfF hne).len
        simp only [widN] at this
        split at this
        · omega
        · split at this <;> omega
    have hEq : ∀ {bx : Bx}, CallOb Tryd.prog ⟨w, kys [] []⟩ bx [Seg.mapQ m K3 (PT.map PE.ent), Seg.pack (T.flatMap Tryd.yeB) []] 25 [.slice av (f e.k).length cv, .slice e.wa e.was.length e.wc] (.bool (decide (f e.k = e.was))) := fun {_} w' hw' =>
      Tryd.equal_w _ _ _ _ _ _ w' (by omega) (by omega) (hsl hw') (x1.ext hw'.ext (by simp [kys]))
    refine At.run 100 true [true] [hR (chC e)] rfl (by (repeat' apply And.intro) <;> first | exact rX | exact True.intro | omega | rfl | (simp only [inK]; omega) | exact decide_eq_true (by omega) | exact decide_eq_false (by omega) | (simp; done) | (simp; omega) | (simp [Value.oneCell']; done) | exact i64s_one _ | exact AggOk.mk (by kernel_rfl) (by kernel_rfl)) ?_
    refine At.step [] rfl rfl rfl rfl rfl trivial (OpOk.alloc (cs := [.int .i64 0, .int .i64 0, .int .i64 0, .slice none 0 0, .slice none 0 0]) rfl (by kernel_rfl) fun b8 hb8 => ?_)
    refine At.run 100 true [] [hB 0] rfl (by (repeat' apply And.intro) <;> first | exact chC_one _ | exact True.intro | omega | rfl | (simp only [inK]; omega) | exact decide_eq_true (by omega) | exact decide_eq_false (by omega) | (simp; done) | (simp; omega) | (simp [Value.oneCell']; done) | exact i64s_one _ | exact AggOk.mk (by kernel_rfl) (by kernel_rfl)) ?_
    refine At.quiet true [] [hB 0, hC (key3 e.k), hL (.slice av (f e.k).length cv), hB 0, hC (.bool (decide (f e.k = e.was)))] ⟨by kernel_rfl, by kernel_rfl, rfl, rfl, rfl⟩ rfl rfl rfl (by (repeat' apply And.intro) <;> first | exact hK | exact hLk | exact hEq | exact True.intro | omega | rfl | (simp only [inK]; omega) | exact decide_eq_true (by omega) | exact decide_eq_false (by omega) | (simp; done) | (simp; omega) | (simp [Value.oneCell']; done) | exact i64s_one _ | exact AggOk.mk (by kernel_rfl) (by kernel_rfl)) ?_
    by_cases hfe : f e.k = e.was
    · rw [if_pos (show f (chP e).1 = (chP e).2.1 from hfe)] at hchk
      have hdrop : (L.map chP).drop (i + 1) = (L.map chP).drop (i + 1) := rfl
      by_cases his : e.is = []
      · have hne : f e.k ≠ [] := by
          intro h
          simp only [mayC, Bool.and_eq_true, decide_eq_true_eq] at hmay
          exact hmay.1.2.2.1 (by show e.was = e.is; rw [← hfe, h, his])
        have hk5 : e.k.1 ≠ 5 := mayC_del hmay his
        obtain ⟨j, hj⟩ := hTab.find hne
        have hj0 := hj
        rw [List.getElem?_map] at hj
        obtain ⟨z, hz, hze⟩ := Option.map_eq_some_iff.1 hj
        have h1 : z.k = e.k := congrArg Prod.fst hze
        have hT' := hTab.erase hj0
        rw [← eraseIdx_map'] at hT'
        have hje : (PT.map PE.ent)[j]? = some (key3 e.k, .slice z.a z.v.length z.c) := by rw [List.getElem?_map, hz]; simp [PE.ent, h1]
        refine At.run 100 true [false, true] [hB 0, hB 0, hC (key3 e.k)] rfl (by (repeat' apply And.intro) <;> first | exact hK | (simp [hfe]; done) | (simp [his]; done) | exact True.intro | omega | rfl | (simp only [inK]; omega) | exact decide_eq_true (by omega) | exact decide_eq_false (by omega) | (simp; done) | (simp; omega) | (simp [Value.oneCell']; done) | exact i64s_one _ | exact AggOk.mk (by kernel_rfl) (by kernel_rfl)) ?_
        refine At.step0 [] rfl rfl rfl rfl trivial (OpOk.mapDelQ 0 rfl Tryd.tableT Tryd.keyK ⟨e.k, rfl, hkin⟩ rfl hje ?_)
        simp only [setL]
        rw [← eraseIdx_map']
        refine At.run 100 true [] [] rfl (by (repeat' apply And.intro) <;> first | exact True.intro | omega | (simp only [inK]; omega) | (simp; done) | (simp; omega) | exact decide_eq_true (by omega) | exact decide_eq_false (by omega) | rfl | (simp [Value.oneCell']; done) | exact i64s_one _ | exact AggOk.mk (by kernel_rfl) (by kernel_rfl)) ?_
        refine At.keep [false, true, true] [true, true] rfl ?_
        exact At.weak (ih _ _ _ _ (by omega) ⟨i + 1, PT.eraseIdx j, upd f e.k [], rfl, by omega, hT', by rw [hchk]; simp only [chP, his], by have := List.length_eraseIdx_le PT j; omega, by unfold upd; rw [if_neg (fun h => hk5 (by rw [← h]))]; exact hf5, fun x hx => hsrc x ((List.eraseIdx_sublist ..).mem hx), rfl, rfl, rfl⟩) ⟨rfl, rfl, rfl, rfl, rfl, rfl, some_int_eq (by omega), trivial⟩
      · have hwf : RowWf (e.k, e.is) := mayC_wf hmay hkin hvin his
        have hf5' : upd f e.k e.is (5, 0, 0) ≠ [] := by
          unfold upd
          split
          · exact his
          · exact hf5
        have hisl : ¬ ((e.is.length : Int) = 0) := by have := List.length_pos_iff.2 his; omega
        by_cases hne : f e.k = []
        · have hms := hTab.miss hne
          have hT' := hTab.push hms hwf
          have hmsE : ∀ p, p ∈ PT.map PE.ent → p.1 ≠ key3 e.k := by
            intro p hp e2
            obtain ⟨z, hz, rfl⟩ := List.mem_map.1 hp
            exact hms z.row (List.mem_map_of_mem hz) (key3_inj e2)
          refine At.run 100 true [false, false] [hB 0] rfl (by (repeat' apply And.intro) <;> first | (simp [hfe]; done) | exact decide_eq_false hisl | exact True.intro | omega | rfl | (simp only [inK]; omega) | exact decide_eq_true (by omega) | exact decide_eq_false (by omega) | (simp; done) | (simp; omega) | (simp [Value.oneCell']; done) | exact i64s_one _ | exact AggOk.mk (by kernel_rfl) (by kernel_rfl)) ?_
          refine At.draw 6 rfl rfl rfl rfl ?_
          refine AtD.pures (ob := True) true (by kernel_rfl) [0] (fuel := 5) (by kernel_rfl) rfl (by (repeat' apply And.intro) <;> first | exact True.intro | omega | (simp only [inK]; omega) | (simp; done) | (simp; omega) | exact decide_eq_true (by omega) | exact decide_eq_false (by omega) | rfl | (simp [Value.oneCell']; done) | exact i64s_one _ | exact AggOk.mk (by kernel_rfl) (by kernel_rfl)) ?_
          refine AtD.lex 1 4 1 true [] [hB 0, hC (key3 e.k), hB 0] ⟨by kernel_rfl, by kernel_rfl, by kernel_rfl, rfl, by kernel_rfl, by kernel_rfl⟩ rfl rfl rfl (by (repeat' apply And.intro) <;> first | exact hK | exact True.intro | omega | rfl | (simp only [inK]; omega) | exact decide_eq_true (by omega) | exact decide_eq_false (by omega) | (simp; done) | (simp; omega) | (simp [Value.oneCell']; done) | exact i64s_one _ | exact AggOk.mk (by kernel_rfl) (by kernel_rfl)) (fun h => by cases h) ?_
          refine AtD.fork1 5 (by kernel_rfl) (StepD.by0 [] rfl rfl rfl trivial (OpOk.mapPushQ 0 rfl rfl rfl rfl Tryd.tableT Tryd.keyK ⟨e.k, rfl, hkin⟩ rfl hmsE ?_))
          refine AtD.done (by kernel_rfl) ?_
          simp only [setL]
          refine At.run 100 true [] [] rfl (by (repeat' apply And.intro) <;> first | exact True.intro | omega | (simp only [inK]; omega) | (simp; done) | (simp; omega) | exact decide_eq_true (by omega) | exact decide_eq_false (by omega) | rfl | (simp [Value.oneCell']; done) | exact i64s_one _ | exact AggOk.mk (by kernel_rfl) (by kernel_rfl)) ?_
          refine At.keep [false, true, true] [true, true] rfl ?_
          have ih := ih _ _ _ _ (by omega) ⟨i + 1, PT ++ [⟨e.k, e.is, e.ia, e.ic⟩], upd f e.k e.is, rfl, by omega, by rw [List.map_append]; exact hT', hchk, by rw [List.length_append, List.length_singleton]; omega, hf5', fun x hx => by
            rcases List.mem_append.1 hx with hx | hx
            · exact hsrc x hx
            · rw [List.mem_singleton] at hx; exact .inr ⟨e, hmem, hx⟩, rfl, rfl, rfl⟩
          rw [List.map_append] at ih
          exact At.weak ih ⟨rfl, rfl, rfl, rfl, rfl, rfl, some_int_eq (by omega), trivial⟩
        · obtain ⟨j, hj⟩ := hTab.find hne
          have hj0 := hj
          rw [List.getElem?_map] at hj
          obtain ⟨z, hz, hze⟩ := Option.map_eq_some_iff.1 hj
          have h1 : z.k = e.k := congrArg Prod.fst hze
          have hT' := hTab.set hj0 hwf
          have hje : (PT.map PE.ent)[j]? = some (key3 e.k, .slice z.a z.v.length z.c) := by rw [List.getElem?_map, hz]; simp [PE.ent, h1]
          refine At.run 100 true [false, false] [hB 0] rfl (by (repeat' apply And.intro) <;> first | (simp [hfe]; done) | exact decide_eq_false hisl | exact True.intro | omega | rfl | (simp only [inK]; omega) | exact decide_eq_true (by omega) | exact decide_eq_false (by omega) | (simp; done) | (simp; omega) | (simp [Value.oneCell']; done) | exact i64s_one _ | exact AggOk.mk (by kernel_rfl) (by kernel_rfl)) ?_
          refine At.draw 6 rfl rfl rfl rfl ?_
          refine AtD.pures (ob := True) true (by kernel_rfl) [0] (fuel := 5) (by kernel_rfl) rfl (by (repeat' apply And.intro) <;> first | exact True.intro | omega | (simp only [inK]; omega) | (simp; done) | (simp; omega) | exact decide_eq_true (by omega) | exact decide_eq_false (by omega) | rfl | (simp [Value.oneCell']; done) | exact i64s_one _ | exact AggOk.mk (by kernel_rfl) (by kernel_rfl)) ?_
          refine AtD.lex 1 4 1 true [] [hB 0, hC (key3 e.k), hB 0] ⟨by kernel_rfl, by kernel_rfl, by kernel_rfl, rfl, by kernel_rfl, by kernel_rfl⟩ rfl rfl rfl (by (repeat' apply And.intro) <;> first | exact hK | exact True.intro | omega | rfl | (simp only [inK]; omega) | exact decide_eq_true (by omega) | exact decide_eq_false (by omega) | (simp; done) | (simp; omega) | (simp [Value.oneCell']; done) | exact i64s_one _ | exact AggOk.mk (by kernel_rfl) (by kernel_rfl)) (fun h => by cases h) ?_
          refine AtD.fork1 5 (by kernel_rfl) (StepD.by0 [] rfl rfl rfl trivial (OpOk.mapPutQ 0 rfl rfl rfl rfl Tryd.tableT Tryd.keyK ⟨e.k, rfl, hkin⟩ rfl hje ?_))
          refine AtD.done (by kernel_rfl) ?_
          simp only [setL]
          refine At.run 100 true [] [] rfl (by (repeat' apply And.intro) <;> first | exact True.intro | omega | (simp only [inK]; omega) | (simp; done) | (simp; omega) | exact decide_eq_true (by omega) | exact decide_eq_false (by omega) | rfl | (simp [Value.oneCell']; done) | exact i64s_one _ | exact AggOk.mk (by kernel_rfl) (by kernel_rfl)) ?_
          refine At.keep [false, true, true] [true, true] rfl ?_
          have ih := ih _ _ _ _ (by omega) ⟨i + 1, PT.set j ⟨e.k, e.is, e.ia, e.ic⟩, upd f e.k e.is, rfl, by omega, by rw [List.map_set]; exact hT', hchk, by rw [List.length_set]; omega, hf5', fun x hx => by
            rcases List.mem_or_eq_of_mem_set hx with hx | hx
            · exact hsrc x hx
            · exact .inr ⟨e, hmem, hx⟩, rfl, rfl, rfl⟩
          rw [List.map_set] at ih
          exact At.weak ih ⟨rfl, rfl, rfl, rfl, rfl, rfl, some_int_eq (by omega), trivial⟩
    · rw [if_neg (show ¬ f (chP e).1 = (chP e).2.1 from hfe)] at hchk
      refine At.run 100 true [true] [hB 1] rfl (by (repeat' apply And.intro) <;> first | (simp [hfe]; done) | exact True.intro | omega | rfl | (simp only [inK]; omega) | exact decide_eq_true (by omega) | exact decide_eq_false (by omega) | (simp; done) | (simp; omega) | (simp [Value.oneCell']; done) | exact i64s_one _ | exact AggOk.mk (by kernel_rfl) (by kernel_rfl)) ?_
      exact At.retK [] [] [hB 1] rfl rfl Tryd.func9 rfl ⟨rfl, trivial⟩ ⟨rfl, .inr (.inr (.inl ⟨ha, hr, hchk, rfl, rfl⟩))⟩
  · rw [List.drop_of_length_le (by rw [List.length_map]; omega)] at hchk
    have hchk : chkP (valB a) (L.map chP) = some f := hchk
    clear ih
    have hpos : 0 < PT.length := by
      obtain ⟨j, hj⟩ := hTab.find hf5
      have := (List.getElem?_eq_some_iff.1 hj).1
      rw [List.length_map] at this; omega
    have hPl' : PT.length ≤ 1048576 := by omega
    have hbk := laid_isBk hTab hPl' hf5
    refine At.run 100 true [false] [] rfl (by (repeat' apply And.intro) <;> first | exact True.intro | omega | (simp only [inK]; omega) | (simp; done) | (simp; omega) | exact decide_eq_true (by omega) | exact decide_eq_false (by omega) | rfl | (simp [Value.oneCell']; done) | exact i64s_one _ | exact AggOk.mk (by kernel_rfl) (by kernel_rfl)) ?_
    refine At.step [] rfl rfl rfl rfl rfl trivial (OpOk.call (Q := fun v bx hp => bx = [] ∧ ∃ (q : BkQ), v = .agg ⟨bkV (bkOf (rowsF f (sort3 (PT.map (·.k))))) q.A⟩ ∧ hp = Tryd.bkHp (bkOf (rowsF f (sort3 (PT.map (·.k))))) q) rfl (fun w' hw' => by
      obtain ⟨es, ck, h1, h2, h3, h4⟩ : MapQ w' m K3 (PT.map PE.ent) := hw'.hp (Seg.mapQ m K3 (PT.map PE.ent)) (by simp)
      exact Tryd.laid_w m ck es PT f w' h1 h2 h4 h3 hTab (hSl hw') hPl' hpos) ?_)
    rintro v bx' hp' ⟨rfl, q, rfl, rfl⟩
    generalize bkOf (rowsF f (sort3 (PT.map (·.k)))) = b at *
    refine At.run 100 true [] [] rfl (by (repeat' apply And.intro) <;> first | exact True.intro | omega | (simp only [inK]; omega) | (simp; done) | (simp; omega) | exact decide_eq_true (by omega) | exact decide_eq_false (by omega) | rfl | (simp [Value.oneCell']; done) | exact i64s_one _ | exact AggOk.mk (by kernel_rfl) (by kernel_rfl)) ?_
    refine At.step [] rfl rfl rfl rfl rfl trivial (OpOk.alloc (cs := [.slice none 0 0, .slice none 0 0, .slice none 0 0, .slice none 0 0, .int .i64 0]) rfl (by kernel_rfl) fun b9 hb9 => ?_)
    have hMb : ∀ {bx : Bx}, CallOb Tryd.prog ⟨w, kys [] []⟩ bx (Tryd.bkHp b q ++ [Seg.mapQ m K3 (PT.map PE.ent), Seg.pack (T.flatMap Tryd.yeB) []]) 21 [.agg ⟨bkV b q.A⟩] (.bool (mayB b)) := fun {_} w' hw' => Tryd.May_w b q.A w' hbk.inn (Tryd.bkHp_ok fun s hs => hw'.hp s (List.mem_append_left _ hs))
    cases hb : mayB b with
    | false =>
      rw [hb] at hMb
      refine At.run 100 true [true] [hB 0, hB 0, hC (.bool false), hB 1] rfl (by (repeat' apply And.intro) <;> first | exact hMb | exact bkV_cells _ _ | exact True.intro | omega | rfl | (simp only [inK]; omega) | exact decide_eq_true (by omega) | exact decide_eq_false (by omega) | (simp; done) | (simp; omega) | (simp [Value.oneCell']; done) | exact i64s_one _ | exact AggOk.mk (by kernel_rfl) (by kernel_rfl)) ?_
      exact At.retK [] [] [hB 1] rfl rfl Tryd.func9 rfl ⟨rfl, trivial⟩ ⟨rfl, .inr (.inr (.inr ⟨f, b, ha, hr, hchk, hbk, .inl ⟨hb, rfl, rfl⟩⟩))⟩
    | true =>
      rw [hb] at hMb
      refine At.run 100 true [false] [hB 0, hB 0, hC (.bool true), hB 0, hB 1] rfl (by (repeat' apply And.intro) <;> first | exact hMb | exact bkV_cells _ _ | exact True.intro | omega | rfl | (simp only [inK]; omega) | exact decide_eq_true (by omega) | exact decide_eq_false (by omega) | (simp; done) | (simp; omega) | (simp [Value.oneCell']; done) | exact i64s_one _ | exact AggOk.mk (by kernel_rfl) (by kernel_rfl)) ?_
      exact At.retK [] [true, true, true, true] [hB 1] rfl rfl Tryd.func9 rfl ⟨rfl, trivial⟩ ⟨rfl, .inr (.inr (.inr ⟨f, b, ha, hr, hchk, hbk, .inr ⟨hb, q, rfl, rfl⟩⟩))⟩
end Go.Proofs

/-
  Walks of layer 14's document: a book patched.
-/
namespace Go.Proofs
open Go Go.Eng
set_option maxRecDepth 100000
set_option maxHeartbeats 4000000
attribute [local irreducible] Tri

theorem valS_eq (T : List YE) (k : K3T) : valS T k = .slice (addrT T k) (getT T k).length (getT T k).length := by
  unfold valS addrT getT
  cases T.find? (fun x => decide (x.k = k)) <;> rfl
theorem Tryd.addrT_ok {S : Base} {bx : Bx} {hp : List Seg} {T : List YE} {w : World} (hw : WOk S bx hp w) (hm : Seg.pack (T.flatMap Tryd.yeB) [] ∈ hp) (k : K3T) : SlOk w (addrT T k) (i64s (getT T k)) := by
  unfold addrT getT
  cases h : T.find? (fun x => decide (x.k = k)) with
  | none => exact .inl rfl
  | some x => exact Tryd.sl_of hw hm (find_k h).1
theorem kys_merge (bx : Bx) (ex ey hp : List Seg) : kys bx (Seg.pack [] (ex ++ ey) :: hp) = kys bx (Seg.pack [] ex :: Seg.pack [] ey :: hp) := by
  simp [kys, Seg.pack]
theorem WOk.merge {S : Base} {bx : Bx} {ex ey hp : List Seg} {w : World} (h : WOk S bx (Seg.pack [] ex :: Seg.pack [] ey :: hp) w) : WOk S bx (Seg.pack [] (ex ++ ey) :: hp) w := by
  refine ⟨h.ext, by rw [kys_merge]; exact h.nd, by rw [kys_merge]; exact h.lt, by rw [kys_merge]; exact h.own, h.bx, fun t ht => ?_⟩
  rcases List.mem_cons.1 ht with rfl | ht
  · refine ⟨by simp, fun t ht => ?_⟩
    rcases List.mem_append.1 ht with ht | ht
    · exact (h.hp (Seg.pack [] ex) (by simp)).2 t ht
    · exact (h.hp (Seg.pack [] ey) (by simp)).2 t ht
  · exact h.hp t (by simp [ht])
theorem BkTo.trans {ex ey : List Seg} {a b c : Bk} {A B C : BkA} (h1 : BkTo ex a A b B) (h2 : BkTo ey b B c C) : BkTo (ey ++ ex) a A c C := fun w' hx h =>
  h2 w' (fun s hs => hx s (List.mem_append_left _ hs)) (h1 w' (fun s hs => hx s (List.mem_append_right _ hs)) h)

/-- What the document's patch answers. -/
def Tryd.PatchQ (a : Bk) (A : BkA) (l : List ChP) (v : Value) (bx : Bx) (hp : List Seg) : Prop := bx = [] ∧ (
    ((∃ e, e ∈ l ∧ valB a e.1 ≠ e.2.1) ∧ v = errB 7 ∧ hp = []) ∨
    ((∀ e, e ∈ l → valB a e.1 = e.2.1) ∧ ((mayB (l.foldl setB a) = false ∧ v = errB 1 ∧ hp = []) ∨
      (mayB (l.foldl setB a) = true ∧ ∃ (A' : BkA) (ex : List Seg), v = .tuple #[.agg ⟨bkV (l.foldl setB a) A'⟩, .int .i64 0] ∧ hp = [Seg.pack [] ex] ∧ BkTo ex a A (l.foldl setB a) A'))))
theorem Tryd.rPatch_w (a : Bk) (A : BkA) (L : List ChE) (la : Option Addr) (lc : Nat) (n : Nat) (w : World) (hi : BkIn a) (ho : BkOk w a A) (hl : SlOk w la (L.flatMap chC)) (hLs : ChL w L) (hok : ∀ e, e ∈ L → ChgOk (chP e)) (hn : BkLe n a) (hsz : n + L.length ≤ 1048576) :
    Tri Tryd.prog 18 [.agg ⟨bkV a A⟩, .slice la L.length lc] w [] (Tryd.PatchQ a A (L.map chP)) := by
  refine Tri.enter (bx := []) (hp := []) Tryd.func18 rfl (by kernel_rfl) rfl (Own.nil w) ?_
  have hm0 : ∀ k, k ∉ (⟨w, kys [] []⟩ : Base).mods := by simp [kys]
  refine At.run 100 true [] [] rfl trivial ?_
  refine At.step [] rfl rfl rfl rfl rfl trivial (OpOk.box rfl rfl rfl fun bq hbq => ?_)
  refine At.step [] rfl rfl rfl rfl rfl trivial (OpOk.alloc (cs := [.slice none 0 0, .slice none 0 0, .slice none 0 0, .slice none 0 0, .int .i64 0]) rfl (by kernel_rfl) fun b4 hb4 => ?_)
  refine At.run 100 true [] [hB 1] rfl (by (repeat' apply And.intro) <;> first | exact True.intro | omega | (simp only [inK]; omega) | (simp; done) | (simp; omega) | exact decide_eq_true (by omega) | exact decide_eq_false (by omega) | rfl | (simp [Value.oneCell']; done) | exact i64s_one _ | exact AggOk.mk (by kernel_rfl) (by kernel_rfl)) ?_
  refine At.step [] rfl rfl rfl rfl rfl trivial (OpOk.call rfl (fun w' hw' => Tryd.rRows_w a A w' hi (ho.ext hw'.ext (by simp [kys]))) ?_)
  rintro v bx' hp' ⟨T, g, c, rfl, rfl, rfl, hT⟩
  have hgT : getT T = valB a := by rw [getT_val, hT]; rfl
  obtain ⟨hT0, hTl⟩ := rowsB_len hT hi
  refine At.run 100 true [] [hB 1] rfl (by (repeat' apply And.intro) <;> first | exact True.intro | omega | (simp only [inK]; omega) | (simp; done) | (simp; omega) | exact decide_eq_true (by omega) | exact decide_eq_false (by omega) | rfl | (simp [Value.oneCell']; done) | exact i64s_one _ | exact AggOk.mk (by kernel_rfl) (by kernel_rfl)) ?_
  refine At.step [] rfl rfl rfl rfl rfl trivial (OpOk.alloc (cs := [.slice none 0 0, .slice none 0 0, .slice none 0 0, .slice none 0 0, .int .i64 0]) rfl (by kernel_rfl) fun b7 hb7 => ?_)
  refine At.run 100 true [] [hB 0] rfl (by (repeat' apply And.intro) <;> first | exact bkV_cells _ _ | exact True.intro | omega | rfl | (simp only [inK]; omega) | exact decide_eq_true (by omega) | exact decide_eq_false (by omega) | (simp; done) | (simp; omega) | (simp [Value.oneCell']; done) | exact i64s_one _ | exact AggOk.mk (by kernel_rfl) (by kernel_rfl)) ?_
  refine At.reshape (fun w' hw' => WOk.freeze0 hw') ?_
  refine At.loop (n := L.length) (env0 := [(1, .slice la L.length lc), (2, .pointer (some ⟨bq, 0, none⟩)), (4, .pointer (some ⟨b4, 0, none⟩)), (6, sv g T.length c), (7, .pointer (some ⟨b7, 0, none⟩)), (8, .int .i64 0)]) (fun m env bx hp => ∃ (i : Nat) (b : Bk) (A' : BkA) (ex : List Seg), m = L.length - i ∧ i ≤ L.length ∧ b = ((L.take i).map chP).foldl setB a ∧ BkIn b ∧ BkLe (n + i) b ∧ BkTo ex a A b A' ∧ (∀ (j : Nat) e, j < i → L[j]? = some e → valB a e.k = e.was) ∧
    env = [(1, .slice la L.length lc), (2, .pointer (some ⟨bq, 0, none⟩)), (4, .pointer (some ⟨b4, 0, none⟩)), (6, sv g T.length c), (7, .pointer (some ⟨b7, 0, none⟩)), (8, .int .i64 i)] ∧ bx = [(b7, 27, bkV b A'), (b4, 27, [.slice none 0 0, .slice none 0 0, .slice none 0 0, .slice none 0 0, .int .i64 0]), (bq, 27, bkV a A)] ∧ hp = [Seg.pack [] ex, Seg.row g 104 4 T.length c (T.flatMap roC), Seg.pack (T.flatMap Tryd.yeB) []]) rfl
    ⟨0, a, A, [], by simp, by omega, by simp, hi, hn, fun w' _ h => h, fun j e h => by omega, rfl, rfl, rfl⟩ ⟨rfl, rfl, rfl, rfl, rfl, rfl, trivial⟩ ?_
  rintro m env bx hp ⟨i, b, A', ex, rfl, hi2, hbf, hib, hle, hto, hall, rfl, rfl, rfl⟩ ih
  have hbok : ∀ {bx : Bx} {hp : List Seg} {w' : World}, WOk ⟨w, kys [] []⟩ bx hp w' → Seg.pack [] ex ∈ hp → BkOk w' b A' := fun {_ _ w'} hw' hm => hto w' (fun s hs => (hw'.hp _ hm).2 s hs) (ho.ext hw'.ext (by simp [kys]))
  by_cases hlt : i < L.length
  · obtain ⟨e, hx⟩ : ∃ e, L[i]? = some e := ⟨_, List.getElem?_eq_getElem hlt⟩
    have hmem := List.mem_of_getElem? hx
    obtain ⟨x1, x2, x3, x4⟩ := hLs e hmem
    obtain ⟨gl, o, rfl, hc⟩ := hl.get (chC_ne hx)
    have rX : ∀ {bx : Bx} {hp : List Seg}, RdW ⟨w, kys [] []⟩ bx hp gl (o + (i : Int).toNat * 5) (chC e) := fun {_ _} => RdW.chE hc (hm0 _) hx (by simp)
    have rT : ∀ {bx : Bx} {hp : List Seg} (f : Nat) (v : Value), (chC e)[f]? = some v → RdW ⟨w, kys [] []⟩ bx hp gl (o + (i : Int).toNat * 5 + f) [v] := fun {_ _} => RdW.ch hc (hm0 _) hx
    have hV : ∀ {bx : Bx}, CallOb Tryd.prog ⟨w, kys [] []⟩ bx [Seg.pack [] ex, Seg.row g 104 4 T.length c (T.flatMap roC), Seg.pack (T.flatMap Tryd.yeB) []] 37 [sv g T.length c, .agg ⟨chC e⟩] (.slice (addrT T e.k) (valB a e.k).length (valB a e.k).length) := fun {_} w' hw' => by
      have := Tryd.value_w T (svA g) c e w' (by omega) (SlOk.row (hw'.hp (Seg.row g 104 4 T.length c (T.flatMap roC)) (by simp)))
      rw [valS_eq, hgT] at this
      exact this
    have hvl : (valB a e.k).length < 9223372036854775807 := by
      rw [← hgT]
      unfold getT
      cases h : T.find? (fun x => decide (x.k = e.k)) with
      | none => simp
      | some x =>
        have hx1 : x.row ∈ rowsB a := by rw [← hT]; exact List.mem_map_of_mem (find_k h).1
        have h2 := (rowsB_wf hi _ hx1).len
        have h3 : widN x.row.1.1 ≤ 5 := by unfold widN; split; · omega
                                           split <;> omega
        show x.v.length < _
        have h4 : x.v.length = widN x.row.1.1 := h2
        omega
    have hEq : ∀ {bx : Bx}, CallOb Tryd.prog ⟨w, kys [] []⟩ bx [Seg.pack [] ex, Seg.row g 104 4 T.length c (T.flatMap roC), Seg.pack (T.flatMap Tryd.yeB) []] 33 [.slice (addrT T e.k) (valB a e.k).length (valB a e.k).length, .slice e.wa e.was.length e.wc] (.bool (decide (valB a e.k = e.was))) := fun {_} w' hw' =>
      Tryd.same_w _ _ _ _ _ _ w' (by rw [← hgT]; exact Tryd.addrT_ok hw' (by simp) e.k) (x1.ext hw'.ext (by simp [kys])) hvl
    refine At.run 100 true [true] [] rfl (by (repeat' apply And.intro) <;> first | exact True.intro | omega | (simp only [inK]; omega) | (simp; done) | (simp; omega) | exact decide_eq_true (by omega) | exact decide_eq_false (by omega) | rfl | (simp [Value.oneCell']; done) | exact i64s_one _ | exact AggOk.mk (by kernel_rfl) (by kernel_rfl)) ?_
    refine At.quiet true [] [hR (chC e), hC (.slice (addrT T e.k) (valB a e.k).length (valB a e.k).length), hR [.slice e.wa e.was.length e.wc], hC (.bool (decide (valB a e.k = e.was)))] ⟨by kernel_rfl, by kernel_rfl, rfl, rfl, rfl⟩ rfl rfl rfl (by (repeat' apply And.intro) <;> first | exact rX | exact hV | exact rT 3 _ rfl | exact hEq | exact True.intro | omega | rfl | (simp only [inK]; omega) | exact decide_eq_true (by omega) | exact decide_eq_false (by omega) | (simp; done) | (simp; omega) | (simp [Value.oneCell']; done) | exact i64s_one _ | exact AggOk.mk (by kernel_rfl) (by kernel_rfl)) ?_
    by_cases hfe : valB a e.k = e.was
    · have hnx : (L.take (i + 1)).map chP = (L.take i).map chP ++ [chP e] := by rw [List.take_add_one, hx]; simp
      refine At.run 100 true [false] [] rfl (by (repeat' apply And.intro) <;> first | (simp [hfe]; done) | exact True.intro | omega | rfl | (simp only [inK]; omega) | exact decide_eq_true (by omega) | exact decide_eq_false (by omega) | (simp; done) | (simp; omega) | (simp [Value.oneCell']; done) | exact i64s_one _ | exact AggOk.mk (by kernel_rfl) (by kernel_rfl)) ?_
      refine At.draw 7 rfl rfl rfl rfl ?_
      refine AtD.lex 0 5 2 true [] [hB 0, hR (chC e)] ⟨by kernel_rfl, by kernel_rfl, by kernel_rfl, rfl, by kernel_rfl, by kernel_rfl⟩ rfl rfl rfl (by (repeat' apply And.intro) <;> first | exact rX | exact True.intro | omega | rfl | (simp only [inK]; omega) | exact decide_eq_true (by omega) | exact decide_eq_false (by omega) | (simp; done) | (simp; omega) | (simp [Value.oneCell']; done) | exact i64s_one _ | exact AggOk.mk (by kernel_rfl) (by kernel_rfl)) (fun h => by cases h) ?_
      refine AtD.fork1 5 (by kernel_rfl) (StepD.by [] rfl rfl rfl rfl trivial (OpOk.call (Q := Tryd.SetQ b A' (setB b (chP e))) rfl (fun w' hw' => Tryd.set_w b A' e w' hib (hbok hw' (by simp)) (hok e hmem) (x2.ext hw'.ext (by simp [kys]))) ?_))
      rintro v bx' hp' ⟨rfl, A2, ex2, rfl, rfl, hto2⟩
      refine AtD.fork1 6 (by kernel_rfl) (StepD.by0 [] rfl rfl rfl trivial (OpOk.one true [] [hB 0] rfl (by (repeat' apply And.intro) <;> first | exact bkV_cells _ _ | exact True.intro | omega | rfl | (simp only [inK]; omega) | exact decide_eq_true (by omega) | exact decide_eq_false (by omega) | (simp; done) | (simp; omega) | (simp [Value.oneCell']; done) | exact i64s_one _ | exact AggOk.mk (by kernel_rfl) (by kernel_rfl)) ?_))
      refine AtD.done (by kernel_rfl) ?_
      refine At.reshape (fun w' hw' => WOk.merge hw') ?_
      refine At.run 100 true [] [] rfl (by (repeat' apply And.intro) <;> first | exact True.intro | omega | (simp only [inK]; omega) | (simp; done) | (simp; omega) | exact decide_eq_true (by omega) | exact decide_eq_false (by omega) | rfl | (simp [Value.oneCell']; done) | exact i64s_one _ | exact AggOk.mk (by kernel_rfl) (by kernel_rfl)) ?_
      exact At.weak (ih _ _ _ _ (by omega) ⟨i + 1, setB b (chP e), A2, ex2 ++ ex, rfl, by omega, by rw [hnx, List.foldl_append, ← hbf]; rfl, setB_in hib hle (by omega) (hok e hmem), setB_le hle _, hto.trans hto2, fun j d hj hd => by
        by_cases e2 : j = i
        · subst e2; rw [hx] at hd; cases hd; exact hfe
        · exact hall j d (by omega) hd, rfl, rfl, rfl⟩) ⟨rfl, rfl, rfl, rfl, rfl, some_int_eq (by omega), trivial⟩
    · refine At.run 100 true [true] [hB 1] rfl (by (repeat' apply And.intro) <;> first | (simp [hfe]; done) | exact True.intro | omega | rfl | (simp only [inK]; omega) | exact decide_eq_true (by omega) | exact decide_eq_false (by omega) | (simp; done) | (simp; omega) | (simp [Value.oneCell']; done) | exact i64s_one _ | exact AggOk.mk (by kernel_rfl) (by kernel_rfl)) ?_
      exact At.retK [] [] [hB 1] rfl rfl Tryd.func18 rfl ⟨rfl, trivial⟩ ⟨rfl, .inl ⟨⟨chP e, List.mem_map_of_mem hmem, hfe⟩, rfl, rfl⟩⟩
  · have hie : i = L.length := by omega
    subst hie
    clear ih
    rw [List.take_length] at hbf
    have hall' : ∀ e, e ∈ L.map chP → valB a e.1 = e.2.1 := fun e he => by
      obtain ⟨d, hd, rfl⟩ := List.mem_map.1 he
      obtain ⟨j, hj⟩ := List.mem_iff_getElem?.1 hd
      exact hall j d (List.getElem?_eq_some_iff.1 hj).1 hj
    have hMb : ∀ {bx : Bx}, CallOb Tryd.prog ⟨w, kys [] []⟩ bx [Seg.pack [] ex, Seg.row g 104 4 T.length c (T.flatMap roC), Seg.pack (T.flatMap Tryd.yeB) []] 7 [.agg ⟨bkV b A'⟩] (.bool (mayB b)) := fun {_} w' hw' => Tryd.rMay_w b A' w' hib (hbok hw' (by simp))
    cases hb : mayB b with
    | false =>
      rw [hb] at hMb
      refine At.run 100 true [false, true] [hB 0, hC (.bool false), hB 1] rfl (by (repeat' apply And.intro) <;> first | exact hMb | exact True.intro | omega | rfl | (simp only [inK]; omega) | exact decide_eq_true (by omega) | exact decide_eq_false (by omega) | (simp; done) | (simp; omega) | (simp [Value.oneCell']; done) | exact i64s_one _ | exact AggOk.mk (by kernel_rfl) (by kernel_rfl)) ?_
      exact At.retK [] [] [hB 1] rfl rfl Tryd.func18 rfl ⟨rfl, trivial⟩ ⟨rfl, .inr ⟨hall', .inl ⟨by rw [← hbf]; exact hb, rfl, rfl⟩⟩⟩
    | true =>
      rw [hb] at hMb
      refine At.run 100 true [false, false] [hB 0, hC (.bool true), hB 0, hB 1] rfl (by (repeat' apply And.intro) <;> first | exact hMb | exact bkV_cells _ _ | exact True.intro | omega | rfl | (simp only [inK]; omega) | exact decide_eq_true (by omega) | exact decide_eq_false (by omega) | (simp; done) | (simp; omega) | (simp [Value.oneCell']; done) | exact i64s_one _ | exact AggOk.mk (by kernel_rfl) (by kernel_rfl)) ?_
      refine At.retK [] [true] [hB 1] rfl rfl Tryd.func18 rfl ⟨rfl, trivial⟩ ⟨rfl, .inr ⟨hall', .inr ?_⟩⟩
      rw [← hbf]
      exact ⟨hb, A', ex, rfl, rfl, hto⟩
end Go.Proofs

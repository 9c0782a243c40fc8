/-
  Walks of layer 9: the reference's names, and files alike.
-/
import Derived.Test.YtfpoclhenokhhaaW48
namespace Go.Proofs
open Go Go.Eng
set_option maxRecDepth 100000
set_option maxHeartbeats 4000000
attribute [local irreducible] Tri

theorem Try.rNamed_w (s : List UInt8) (w : World) (hs : s.length ≤ 9223372036854775807) : Fun Try.prog 69 [str s] w (.bool (namedB s)) := by
  refine Tri.enter (bx := []) (hp := []) Try.func69 rfl (by kernel_rfl) rfl (Own.nil w) ?_
  have hsz : (bl ⟨s.toArray⟩).length = s.length := by rw [bl_of]
  refine At.run 100 true [] [] rfl (by (repeat' apply And.intro) <;> first | exact True.intro | omega | (simp only [inK]; omega) | (simp; done) | (simp; omega) | exact decide_eq_true (by omega) | exact decide_eq_false (by omega) | rfl | (simp [Value.oneCell']; done) | exact i64s_one _ | exact AggOk.mk (by kernel_rfl) (by kernel_rfl)) ?_
  refine At.loop (n := s.length) (env0 := [(0, str s), (3, .int .i64 0)]) (fun m env bx hp => ∃ i : Nat, m = s.length - i ∧ i ≤ s.length ∧ ((s.take i).all fun b => okR b.toNat) = true ∧
    env = [(0, str s), (3, .int .i64 i)] ∧ bx = [] ∧ hp = []) rfl ⟨0, by simp, by omega, by simp, rfl, rfl, rfl⟩ ⟨rfl, rfl, trivial⟩ ?_
  rintro m env bx hp ⟨i, rfl, hi, hall, rfl, rfl, rfl⟩ ih
  by_cases hlt : i < s.length
  · obtain ⟨c, hc⟩ : ∃ c, s[i]? = some c := ⟨_, List.getElem?_eq_getElem hlt⟩
    have ec : (bl ⟨s.toArray⟩)[((i : Nat) : Int).toNat]?.getD 0 = c := by rw [Int.toNat_natCast, bl_of]; simp [hc]
    have hbad : okR c.toNat = false → namedB s = false := by
      intro h
      have : (s.all fun b => okR b.toNat) = false := by rw [List.all_eq_false]; exact ⟨c, List.mem_of_getElem? hc, by rw [h]; simp⟩
      simp [namedB, this]
    have hgood : okR c.toNat = true → ((s.take (i + 1)).all fun b => okR b.toNat) = true := by
      intro h
      rw [List.take_add_one, hc, List.all_append, hall]; simp [h]
    have hix : (0 : Int) ≤ i ∧ (i : Int) < (((bl ⟨s.toArray⟩).length : Nat) : Int) := by omega
    have hltd : decide ((i : Int) < (((bl ⟨s.toArray⟩).length : Nat) : Int)) = true := decide_eq_true (by omega)
    by_cases h1 : c.toNat < 48
    · refine At.run 100 true [true, false, false, false, true] [] rfl (by simp only [ec]; exact (by (repeat' apply And.intro) <;> first | exact True.intro | omega | (simp only [inK]; omega) | (simp; done) | (simp; omega) | exact decide_eq_true (by omega) | exact decide_eq_false (by omega) | rfl | (simp [Value.oneCell']; done) | exact i64s_one _ | exact AggOk.mk (by kernel_rfl) (by kernel_rfl))) ?_
      exact At.retK [] [] [] rfl rfl Try.func69 rfl trivial ⟨by rw [hbad (decide_eq_false (by omega))]; rfl, rfl, rfl⟩
    by_cases h2 : c.toNat ≤ 57
    · refine At.run 100 true [true, true, true, false] [] rfl (by simp only [ec]; exact (by (repeat' apply And.intro) <;> first | exact True.intro | omega | (simp only [inK]; omega) | (simp; done) | (simp; omega) | exact decide_eq_true (by omega) | exact decide_eq_false (by omega) | rfl | (simp [Value.oneCell']; done) | exact i64s_one _ | exact AggOk.mk (by kernel_rfl) (by kernel_rfl))) ?_
      refine At.weak (ih _ _ _ _ (by omega) ⟨i + 1, rfl, by omega, hgood (decide_eq_true (by omega)), rfl, rfl, rfl⟩) ⟨rfl, some_int_eq (by omega), trivial⟩
    by_cases h3 : c.toNat < 97
    · refine At.run 100 true [true, true, false, false, true] [] rfl (by simp only [ec]; exact (by (repeat' apply And.intro) <;> first | exact True.intro | omega | (simp only [inK]; omega) | (simp; done) | (simp; omega) | exact decide_eq_true (by omega) | exact decide_eq_false (by omega) | rfl | (simp [Value.oneCell']; done) | exact i64s_one _ | exact AggOk.mk (by kernel_rfl) (by kernel_rfl))) ?_
      exact At.retK [] [] [] rfl rfl Try.func69 rfl trivial ⟨by rw [hbad (decide_eq_false (by omega))]; rfl, rfl, rfl⟩
    by_cases h4 : c.toNat ≤ 122
    · refine At.run 100 true [true, true, false, true, false] [] rfl (by simp only [ec]; exact (by (repeat' apply And.intro) <;> first | exact True.intro | omega | (simp only [inK]; omega) | (simp; done) | (simp; omega) | exact decide_eq_true (by omega) | exact decide_eq_false (by omega) | rfl | (simp [Value.oneCell']; done) | exact i64s_one _ | exact AggOk.mk (by kernel_rfl) (by kernel_rfl))) ?_
      refine At.weak (ih _ _ _ _ (by omega) ⟨i + 1, rfl, by omega, hgood (decide_eq_true (by omega)), rfl, rfl, rfl⟩) ⟨rfl, some_int_eq (by omega), trivial⟩
    · refine At.run 100 true [true, true, false, true, true] [] rfl (by simp only [ec]; exact (by (repeat' apply And.intro) <;> first | exact True.intro | omega | (simp only [inK]; omega) | (simp; done) | (simp; omega) | exact decide_eq_true (by omega) | exact decide_eq_false (by omega) | rfl | (simp [Value.oneCell']; done) | exact i64s_one _ | exact AggOk.mk (by kernel_rfl) (by kernel_rfl))) ?_
      exact At.retK [] [] [] rfl rfl Try.func69 rfl trivial ⟨by rw [hbad (decide_eq_false (by omega))]; rfl, rfl, rfl⟩
  · have hi' : s.length ≤ i := by omega
    rw [List.take_of_length_le hi'] at hall
    by_cases h5 : 1 ≤ s.length
    · refine At.run 100 true [false, true] [] rfl (by (repeat' apply And.intro) <;> first | exact True.intro | omega | (simp only [inK]; omega) | (simp; done) | (simp; omega) | exact decide_eq_true (by omega) | exact decide_eq_false (by omega) | rfl | (simp [Value.oneCell']; done) | exact i64s_one _ | exact AggOk.mk (by kernel_rfl) (by kernel_rfl)) ?_
      refine At.retK [] [] [] rfl rfl Try.func69 rfl trivial ⟨?_, rfl, rfl⟩
      have h3 : Nat.ble 1 s.length = true := by simp; omega
      simp only [tupV, namedB, hall, h3, Bool.and_true, Bool.true_and]
      congr 1
      rw [Bool.eq_iff_iff, hsz]; simp <;> omega
    · refine At.run 100 true [false, false] [] rfl (by (repeat' apply And.intro) <;> first | exact True.intro | omega | (simp only [inK]; omega) | (simp; done) | (simp; omega) | exact decide_eq_true (by omega) | exact decide_eq_false (by omega) | rfl | (simp [Value.oneCell']; done) | exact i64s_one _ | exact AggOk.mk (by kernel_rfl) (by kernel_rfl)) ?_
      refine At.retK [] [] [] rfl rfl Try.func69 rfl trivial ⟨?_, rfl, rfl⟩
      have h3 : namedB s = false := by simp [namedB]; omega
      rw [h3]; rfl

theorem Try.rMay_w9 (S : FL) (a : Option Addr) (cap : Nat) (w : World) (hlen : S.length ≤ 9223372036854775807) (hrow : SlOk w a (fl S)) (hns : ∀ p, p ∈ S → p.1.length ≤ 9223372036854775807 ∧ p.2.length ≤ 9223372036854775807) :
    Fun Try.prog 21 [.slice a S.length cap] w (.bool (mayS S)) := by
  refine Tri.enter (bx := []) (hp := []) Try.func21 rfl (by kernel_rfl) rfl (Own.nil w) ?_
  by_cases hbig : 4096 < S.length
  · refine At.run 100 true [true] [] rfl (by (repeat' apply And.intro) <;> first | exact True.intro | omega | (simp only [inK]; omega) | (simp; done) | (simp; omega) | exact decide_eq_true (by omega) | exact decide_eq_false (by omega) | rfl | (simp [Value.oneCell']; done) | exact i64s_one _ | exact AggOk.mk (by kernel_rfl) (by kernel_rfl)) ?_
    have : mayS S = false := by simp [mayS]; omega
    exact At.retK [] [] [] rfl rfl Try.func21 rfl trivial ⟨by rw [this]; rfl, rfl, rfl⟩
  refine At.run 100 true [false] [] rfl (by (repeat' apply And.intro) <;> first | exact True.intro | omega | (simp only [inK]; omega) | (simp; done) | (simp; omega) | exact decide_eq_true (by omega) | exact decide_eq_false (by omega) | rfl | (simp [Value.oneCell']; done) | exact i64s_one _ | exact AggOk.mk (by kernel_rfl) (by kernel_rfl)) ?_
  refine At.loop (n := S.length) (env0 := [(0, .slice a S.length cap), (3, .int .i64 0)]) (fun m env bx hp => ∃ i : Nat, m = S.length - i ∧ i ≤ S.length ∧ (S.take i).all (okE namedB) = true ∧ (∀ t x y, t + 1 < i → S[t]? = some x → S[t + 1]? = some y → ltN x y = true) ∧
    env = [(0, .slice a S.length cap), (3, .int .i64 i)] ∧ bx = [] ∧ hp = []) rfl ⟨0, by simp, by omega, by simp, by omega, rfl, rfl, rfl⟩ ⟨rfl, rfl, trivial⟩ ?_
  rintro m env bx hp ⟨i, rfl, hi, hall, hris, rfl, rfl, rfl⟩ ih
  by_cases hlt : i < S.length
  · obtain ⟨p, hp⟩ : ∃ p, S[i]? = some p := ⟨_, List.getElem?_eq_getElem hlt⟩
    have hne : S ≠ [] := by intro h; rw [h] at hlt; simp at hlt
    obtain ⟨g, o, rfl, hc⟩ := hrow.get (fl_ne hne)
    have hm : g ∉ (⟨w, kys [] []⟩ : Base).mods := by simp [kys]
    have hpm := List.mem_of_getElem? hp
    have rN : ∀ {bx : Bx} {hp : List Seg}, RdW ⟨w, kys [] []⟩ bx hp g (o + (i : Int).toNat * 2 + 0) [str p.1] := fun {_ _} => RdW.fileN hc hm hp (by omega)
    have rB : ∀ {bx : Bx} {hp : List Seg}, RdW ⟨w, kys [] []⟩ bx hp g (o + (i : Int).toNat * 2 + 1) [str p.2] := fun {_ _} => RdW.fileB hc hm hp (by omega)
    have hN : ∀ {bx : Bx} {hp : List Seg}, CallOb Try.prog ⟨w, kys [] []⟩ bx hp 69 [str p.1] (.bool (namedB p.1)) := fun {_ _} w' hw' => Try.rNamed_w p.1 w' (hns p hpm).1
    have hsz : (bl ⟨p.2.toArray⟩).length = p.2.length := by rw [bl_of]
    refine At.run 100 true [true] [] rfl (by (repeat' apply And.intro) <;> first | exact True.intro | omega | (simp only [inK]; omega) | (simp; done) | (simp; omega) | exact decide_eq_true (by omega) | exact decide_eq_false (by omega) | rfl | (simp [Value.oneCell']; done) | exact i64s_one _ | exact AggOk.mk (by kernel_rfl) (by kernel_rfl)) ?_
    cases hn : namedB p.1 with
    | false =>
      rw [hn] at hN
      have hF := mayF1 hp (by simp [okE, hn])
      refine At.quiet true [true, true] [hR [str p.1], hC (.bool false)] ⟨by kernel_rfl, by kernel_rfl, rfl, rfl, rfl⟩ rfl rfl rfl (by (repeat' apply And.intro) <;> first | exact rN | exact hN | exact True.intro | omega | rfl | (simp only [inK]; omega) | exact decide_eq_true (by omega) | exact decide_eq_false (by omega) | (simp; done) | (simp; omega) | (simp [Value.oneCell']; done) | exact i64s_one _ | exact AggOk.mk (by kernel_rfl) (by kernel_rfl)) ?_
      refine At.run 100 true [true] [] rfl (by (repeat' apply And.intro) <;> first | exact True.intro | omega | (simp only [inK]; omega) | (simp; done) | (simp; omega) | exact decide_eq_true (by omega) | exact decide_eq_false (by omega) | rfl | (simp [Value.oneCell']; done) | exact i64s_one _ | exact AggOk.mk (by kernel_rfl) (by kernel_rfl)) ?_
      exact At.retK [] [] [] rfl rfl Try.func21 rfl trivial ⟨by rw [hF]; rfl, rfl, rfl⟩
    | true =>
      rw [hn] at hN
      by_cases hb : p.2 = []
      · have hF := mayF1 hp (by simp [okE, hb])
        have hl0 : p.2.length = 0 := by rw [hb]; rfl
        refine At.quiet true [false, true] [hR [str p.1], hC (.bool true), hR [str p.2]] ⟨by kernel_rfl, by kernel_rfl, rfl, rfl, rfl⟩ rfl rfl rfl (by (repeat' apply And.intro) <;> first | exact rN | exact rB | exact hN | exact True.intro | omega | rfl | (simp only [inK]; omega) | exact decide_eq_true (by omega) | exact decide_eq_false (by omega) | (simp; done) | (simp; omega) | (simp [Value.oneCell']; done) | exact i64s_one _ | exact AggOk.mk (by kernel_rfl) (by kernel_rfl)) ?_
        refine At.run 100 true [true] [] rfl (by (repeat' apply And.intro) <;> first | exact True.intro | omega | (simp only [inK]; omega) | (simp; done) | (simp; omega) | exact decide_eq_true (by omega) | exact decide_eq_false (by omega) | rfl | (simp [Value.oneCell']; done) | exact i64s_one _ | exact AggOk.mk (by kernel_rfl) (by kernel_rfl)) ?_
        exact At.retK [] [] [] rfl rfl Try.func21 rfl trivial ⟨by rw [hF]; rfl, rfl, rfl⟩
      · have hok : okE namedB p = true := by simp [okE, hn, hb]
        have hl0 : 0 < p.2.length := List.length_pos_iff.2 hb
        have hall' : (S.take (i + 1)).all (okE namedB) = true := by rw [List.take_add_one, hp, List.all_append, hall]; simp [hok]
        by_cases hi0 : 0 < i
        · obtain ⟨q, hq⟩ : ∃ q, S[i - 1]? = some q := ⟨_, List.getElem?_eq_getElem (by omega)⟩
          have rQ : ∀ {bx : Bx} {hp : List Seg}, RdW ⟨w, kys [] []⟩ bx hp g (o + ((i : Int) - 1).toNat * 2 + 0) [str q.1] := fun {_ _} => RdW.fileN hc hm hq (by omega)
          have hpi : S[i - 1 + 1]? = some p := by rw [show i - 1 + 1 = i by omega]; exact hp
          cases hl : ltN q p with
          | false =>
            have hF := mayF2 (risN_false hq hpi hl)
            refine At.quiet true [false, false, true] [hR [str p.1], hC (.bool true), hR [str p.2], hR [str q.1], hR [str p.1]] ⟨by kernel_rfl, by kernel_rfl, rfl, rfl, rfl⟩ rfl rfl rfl (by (repeat' apply And.intro) <;> first | exact rN | exact rB | exact rQ | exact hN | exact True.intro | omega | rfl | (simp only [inK]; omega) | exact decide_eq_true (by omega) | exact decide_eq_false (by omega) | (simp; done) | (simp; omega) | (simp [Value.oneCell']; done) | exact i64s_one _ | exact AggOk.mk (by kernel_rfl) (by kernel_rfl)) ?_
            refine At.run 100 true [true] [] rfl (by (repeat' apply And.intro) <;> first | (simp only [bl_of]; rw [show Op.bytesLess q.1 p.1 = false from hl]; rfl) | exact True.intro | omega | rfl | (simp only [inK]; omega) | exact decide_eq_true (by omega) | exact decide_eq_false (by omega) | (simp; done) | (simp; omega) | (simp [Value.oneCell']; done) | exact i64s_one _ | exact AggOk.mk (by kernel_rfl) (by kernel_rfl)) ?_
            exact At.retK [] [] [] rfl rfl Try.func21 rfl trivial ⟨by rw [hF]; rfl, rfl, rfl⟩
          | true =>
            refine At.quiet true [false, false, true] [hR [str p.1], hC (.bool true), hR [str p.2], hR [str q.1], hR [str p.1]] ⟨by kernel_rfl, by kernel_rfl, rfl, rfl, rfl⟩ rfl rfl rfl (by (repeat' apply And.intro) <;> first | exact rN | exact rB | exact rQ | exact hN | exact True.intro | omega | rfl | (simp only [inK]; omega) | exact decide_eq_true (by omega) | exact decide_eq_false (by omega) | (simp; done) | (simp; omega) | (simp [Value.oneCell']; done) | exact i64s_one _ | exact AggOk.mk (by kernel_rfl) (by kernel_rfl)) ?_
            refine At.run 100 true [false] [] rfl (by (repeat' apply And.intro) <;> first | (simp only [bl_of]; rw [show Op.bytesLess q.1 p.1 = true from hl]; rfl) | exact True.intro | omega | rfl | (simp only [inK]; omega) | exact decide_eq_true (by omega) | exact decide_eq_false (by omega) | (simp; done) | (simp; omega) | (simp [Value.oneCell']; done) | exact i64s_one _ | exact AggOk.mk (by kernel_rfl) (by kernel_rfl)) ?_
            refine At.weak (ih _ _ _ _ (by omega) ⟨i + 1, rfl, by omega, hall', fun t x y ht hx hy => ?_, rfl, rfl, rfl⟩) ⟨rfl, some_int_eq (by omega), trivial⟩
            by_cases hti : t + 1 < i
            · exact hris t x y hti hx hy
            · have : t = i - 1 := by omega
              subst this
              rw [hq] at hx; rw [hpi] at hy
              cases hx; cases hy; exact hl
        · have : i = 0 := by omega
          subst this
          refine At.quiet true [false, false, false] [hR [str p.1], hC (.bool true), hR [str p.2]] ⟨by kernel_rfl, by kernel_rfl, rfl, rfl, rfl⟩ rfl rfl rfl (by (repeat' apply And.intro) <;> first | exact rN | exact rB | exact hN | exact True.intro | omega | rfl | (simp only [inK]; omega) | exact decide_eq_true (by omega) | exact decide_eq_false (by omega) | (simp; done) | (simp; omega) | (simp [Value.oneCell']; done) | exact i64s_one _ | exact AggOk.mk (by kernel_rfl) (by kernel_rfl)) ?_
          refine At.run 100 true [false] [] rfl (by (repeat' apply And.intro) <;> first | exact True.intro | omega | (simp only [inK]; omega) | (simp; done) | (simp; omega) | exact decide_eq_true (by omega) | exact decide_eq_false (by omega) | rfl | (simp [Value.oneCell']; done) | exact i64s_one _ | exact AggOk.mk (by kernel_rfl) (by kernel_rfl)) ?_
          exact At.weak (ih _ _ _ _ (by omega) ⟨0 + 1, rfl, by omega, hall', by omega, rfl, rfl, rfl⟩) ⟨rfl, some_int_eq (by omega), trivial⟩
  · have hi' : S.length ≤ i := by omega
    have h1 : S.all (okE namedB) = true := by rw [List.take_of_length_le hi'] at hall; exact hall
    have h2 := risN_ok hris hi'
    refine At.run 100 true [false] [] rfl (by (repeat' apply And.intro) <;> first | exact True.intro | omega | (simp only [inK]; omega) | (simp; done) | (simp; omega) | exact decide_eq_true (by omega) | exact decide_eq_false (by omega) | rfl | (simp [Value.oneCell']; done) | exact i64s_one _ | exact AggOk.mk (by kernel_rfl) (by kernel_rfl)) ?_
    refine At.retK [] [] [] rfl rfl Try.func21 rfl trivial ⟨?_, rfl, rfl⟩
    have h3 : mayS S = true := by simp [mayS, h1, h2]; omega
    rw [h3]; rfl

theorem Try.rSame9_w (S R : FL) (a b : Option Addr) (ca cb : Nat) (w : World) (hS : S.length ≤ 9223372036854775807) (hR0 : R.length ≤ 9223372036854775807) (hrS : SlOk w a (fl S)) (hrR : SlOk w b (fl R)) :
    Fun Try.prog 27 [.slice a S.length ca, .slice b R.length cb] w (.bool (decide (S = R))) := by
  refine Tri.enter (bx := []) (hp := []) Try.func27 rfl (by kernel_rfl) rfl (Own.nil w) ?_
  by_cases hl : S.length = R.length
  · refine At.run 100 true [false] [] rfl (by (repeat' apply And.intro) <;> first | (simp [hl]; done) | exact True.intro | omega | rfl | (simp only [inK]; omega) | exact decide_eq_true (by omega) | exact decide_eq_false (by omega) | (simp; done) | (simp; omega) | (simp [Value.oneCell']; done) | exact i64s_one _ | exact AggOk.mk (by kernel_rfl) (by kernel_rfl)) ?_
    refine At.loop (n := S.length) (env0 := [(0, .slice a S.length ca), (1, .slice b R.length cb), (5, .int .i64 0)]) (fun m env bx hp => ∃ i : Nat, m = S.length - i ∧ i ≤ S.length ∧ S.take i = R.take i ∧
      env = [(0, .slice a S.length ca), (1, .slice b R.length cb), (5, .int .i64 i)] ∧ bx = [] ∧ hp = []) rfl ⟨0, by simp, by omega, by simp, rfl, rfl, rfl⟩ ⟨rfl, rfl, rfl, trivial⟩ ?_
    rintro m env bx hp ⟨i, rfl, hi, hti, rfl, rfl, rfl⟩ ih
    by_cases hlt : i < S.length
    · obtain ⟨p, hp⟩ : ∃ p, S[i]? = some p := ⟨_, List.getElem?_eq_getElem hlt⟩
      obtain ⟨q, hq⟩ : ∃ q, R[i]? = some q := ⟨_, List.getElem?_eq_getElem (by omega)⟩
      obtain ⟨g, o, rfl, hc⟩ := hrS.get (fl_ne (by intro h; rw [h] at hlt; simp at hlt))
      obtain ⟨g2, o2, rfl, hc2⟩ := hrR.get (fl_ne (by intro h; rw [h] at hl; rw [hl] at hlt; simp at hlt))
      have rP : ∀ {bx : Bx} {hp : List Seg}, RdW ⟨w, kys [] []⟩ bx hp g (o + (i : Int).toNat * 2) [str p.1, str p.2] := fun {_ _} => RdW.fileE hc (by simp [kys]) hp (by omega)
      have rQ : ∀ {bx : Bx} {hp : List Seg}, RdW ⟨w, kys [] []⟩ bx hp g2 (o2 + (i : Int).toNat * 2) [str q.1, str q.2] := fun {_ _} => RdW.fileE hc2 (by simp [kys]) hq (by omega)
      refine At.run 100 true [true] [] rfl (by (repeat' apply And.intro) <;> first | exact True.intro | omega | (simp only [inK]; omega) | (simp; done) | (simp; omega) | exact decide_eq_true (by omega) | exact decide_eq_false (by omega) | rfl | (simp [Value.oneCell']; done) | exact i64s_one _ | exact AggOk.mk (by kernel_rfl) (by kernel_rfl)) ?_
      refine At.quiet true [] [hR [str p.1, str p.2], hR [str q.1, str q.2]] ⟨by kernel_rfl, by kernel_rfl, rfl, rfl, rfl⟩ rfl rfl rfl (by (repeat' apply And.intro) <;> first | exact rP | exact rQ | exact True.intro | omega | rfl | (simp only [inK]; omega) | exact decide_eq_true (by omega) | exact decide_eq_false (by omega) | (simp; done) | (simp; omega) | (simp [Value.oneCell']; done) | exact i64s_one _ | exact AggOk.mk (by kernel_rfl) (by kernel_rfl)) ?_
      by_cases hpq : p = q
      · subst hpq
        refine At.run 100 true [false] [] rfl (by (repeat' apply And.intro) <;> first | exact True.intro | omega | (simp only [inK]; omega) | (simp; done) | (simp; omega) | exact decide_eq_true (by omega) | exact decide_eq_false (by omega) | rfl | (simp [Value.oneCell']; done) | exact i64s_one _ | exact AggOk.mk (by kernel_rfl) (by kernel_rfl)) ?_
        refine At.weak (ih _ _ _ _ (by omega) ⟨i + 1, rfl, by omega, ?_, rfl, rfl, rfl⟩) ⟨rfl, rfl, some_int_eq (by omega), trivial⟩
        rw [List.take_add_one, List.take_add_one, hti, hp, hq]
      · have hd : (!(decide (bl ⟨p.1.toArray⟩ = bl ⟨q.1.toArray⟩) && decide (bl ⟨p.2.toArray⟩ = bl ⟨q.2.toArray⟩))) = true := by
          simp only [bl_of]
          obtain ⟨p1, p2⟩ := p
          obtain ⟨q1, q2⟩ := q
          simp only [Prod.mk.injEq] at hpq
          simp only [Bool.not_eq_true', Bool.and_eq_false_iff, decide_eq_false_iff_not]
          by_cases h1 : p1 = q1
          · exact .inr fun h2 => hpq ⟨h1, h2⟩
          · exact .inl h1
        refine At.run 100 true [true] [] rfl (by (repeat' apply And.intro) <;> first | exact hd | exact True.intro | omega | rfl | (simp only [inK]; omega) | exact decide_eq_true (by omega) | exact decide_eq_false (by omega) | (simp; done) | (simp; omega) | (simp [Value.oneCell']; done) | exact i64s_one _ | exact AggOk.mk (by kernel_rfl) (by kernel_rfl)) ?_
        have hF : decide (S = R) = false := decide_eq_false (by rintro rfl; rw [hp] at hq; exact hpq (Option.some.inj hq))
        exact At.retK [] [] [] rfl rfl Try.func27 rfl trivial ⟨by rw [hF]; rfl, rfl, rfl⟩
    · have hSR : S = R := by
        rw [List.take_of_length_le (by omega), List.take_of_length_le (by omega)] at hti; exact hti
      refine At.run 100 true [false] [] rfl (by (repeat' apply And.intro) <;> first | exact True.intro | omega | (simp only [inK]; omega) | (simp; done) | (simp; omega) | exact decide_eq_true (by omega) | exact decide_eq_false (by omega) | rfl | (simp [Value.oneCell']; done) | exact i64s_one _ | exact AggOk.mk (by kernel_rfl) (by kernel_rfl)) ?_
      have hT : decide (S = R) = true := decide_eq_true hSR
      exact At.retK [] [] [] rfl rfl Try.func27 rfl trivial ⟨by rw [hT]; rfl, rfl, rfl⟩
  · have hF : decide (S = R) = false := decide_eq_false (fun h => hl (by rw [h]))
    refine At.run 100 true [true] [] rfl (by (repeat' apply And.intro) <;> first | (simp; omega) | exact True.intro | omega | rfl | (simp only [inK]; omega) | exact decide_eq_true (by omega) | exact decide_eq_false (by omega) | (simp; done) | (simp; omega) | (simp [Value.oneCell']; done) | exact i64s_one _ | exact AggOk.mk (by kernel_rfl) (by kernel_rfl)) ?_
    exact At.retK [] [] [] rfl rfl Try.func27 rfl trivial ⟨by rw [hF]; rfl, rfl, rfl⟩

/-- More files than are looked at? -/
def greatS (S : FL) : Bool := decide (60 < S.length) || decide (6000 < (S.map fun p => min p.2.length 10000 + min p.1.length 100).sum)
theorem greatS_lens {S : FL} (h : greatS S = false) : S.length ≤ 60 ∧ sumB S ≤ 6000 := by
  unfold greatS at h
  simp only [Bool.or_eq_false_iff, decide_eq_false_iff_not] at h
  refine ⟨by omega, ?_⟩
  have h2 : ∀ R : FL, (R.map fun p => min p.2.length 10000 + min p.1.length 100).sum ≤ 6000 → sumB R ≤ (R.map fun p => min p.2.length 10000 + min p.1.length 100).sum := by
    intro R
    induction R with
    | nil => simp [sumB]
    | cons p R ih =>
      simp only [sumB, List.map_cons, List.sum_cons]
      intro hs
      have := ih (by omega)
      simp only [sumB] at this
      omega
  have := h2 S (by omega)
  omega

def capS (S : FL) : Nat := (S.map fun p => min p.2.length 10000 + min p.1.length 100).sum
theorem capS_le (S : FL) : capS S ≤ 10100 * S.length := by
  induction S with
  | nil => simp [capS]
  | cons p S ih => simp only [capS, List.map_cons, List.sum_cons, List.length_cons] at *; omega

theorem Try.great9_w (S : FL) (a : Option Addr) (cap : Nat) (w : World) (hlen : S.length ≤ 9223372036854775807) (hrow : SlOk w a (fl S)) (hns : ∀ p, p ∈ S → p.1.length ≤ 9223372036854775807 ∧ p.2.length ≤ 9223372036854775807) :
    Fun Try.prog 19 [.slice a S.length cap] w (.bool (greatS S)) := by
  refine Tri.enter (bx := []) (hp := []) Try.func19 rfl (by kernel_rfl) rfl (Own.nil w) ?_
  by_cases hbig : 60 < S.length
  · refine At.run 100 true [true] [] rfl (by (repeat' apply And.intro) <;> first | exact True.intro | omega | (simp only [inK]; omega) | (simp; done) | (simp; omega) | exact decide_eq_true (by omega) | exact decide_eq_false (by omega) | rfl | (simp [Value.oneCell']; done) | exact i64s_one _ | exact AggOk.mk (by kernel_rfl) (by kernel_rfl)) ?_
    have : greatS S = true := by simp [greatS, hbig]
    exact At.retK [] [] [] rfl rfl Try.func19 rfl trivial ⟨by rw [this]; rfl, rfl, rfl⟩
  refine At.run 100 true [false] [] rfl (by (repeat' apply And.intro) <;> first | exact True.intro | omega | (simp only [inK]; omega) | (simp; done) | (simp; omega) | exact decide_eq_true (by omega) | exact decide_eq_false (by omega) | rfl | (simp [Value.oneCell']; done) | exact i64s_one _ | exact AggOk.mk (by kernel_rfl) (by kernel_rfl)) ?_
  refine At.loop (n := S.length) (env0 := [(0, .slice a S.length cap), (3, .int .i64 0), (4, .int .i64 0)]) (fun m env bx hp => ∃ i : Nat, m = S.length - i ∧ i ≤ S.length ∧
    env = [(0, .slice a S.length cap), (3, .int .i64 (capS (S.take i))), (4, .int .i64 i)] ∧ bx = [] ∧ hp = []) rfl ⟨0, by simp, by omega, rfl, rfl, rfl⟩ ⟨rfl, rfl, rfl, trivial⟩ ?_
  rintro m env bx hp ⟨i, rfl, hi, rfl, rfl, rfl⟩ ih
  have hcl := capS_le (S.take i)
  rw [List.length_take] at hcl
  by_cases hlt : i < S.length
  · obtain ⟨p, hp⟩ : ∃ p, S[i]? = some p := ⟨_, List.getElem?_eq_getElem hlt⟩
    obtain ⟨g, o, rfl, hc⟩ := hrow.get (fl_ne (by intro h; rw [h] at hlt; simp at hlt))
    have hpm := hns p (List.mem_of_getElem? hp)
    have rN : ∀ {bx : Bx} {hp : List Seg}, RdW ⟨w, kys [] []⟩ bx hp g (o + (i : Int).toNat * 2 + 0) [str p.1] := fun {_ _} => RdW.fileN hc (by simp [kys]) hp (by omega)
    have rB : ∀ {bx : Bx} {hp : List Seg}, RdW ⟨w, kys [] []⟩ bx hp g (o + (i : Int).toNat * 2 + 1) [str p.2] := fun {_ _} => RdW.fileB hc (by simp [kys]) hp (by omega)
    have h1 : (bl ⟨p.1.toArray⟩).length = p.1.length := by rw [bl_of]
    have h2 : (bl ⟨p.2.toArray⟩).length = p.2.length := by rw [bl_of]
    have hsn : capS (S.take (i + 1)) = capS (S.take i) + (min p.2.length 10000 + min p.1.length 100) := by rw [List.take_add_one, hp]; simp [capS]
    refine At.run 100 true [true] [] rfl (by (repeat' apply And.intro) <;> first | exact True.intro | omega | (simp only [inK]; omega) | (simp; done) | (simp; omega) | exact decide_eq_true (by omega) | exact decide_eq_false (by omega) | rfl | (simp [Value.oneCell']; done) | exact i64s_one _ | exact AggOk.mk (by kernel_rfl) (by kernel_rfl)) ?_
    refine At.quiet true [] [hR [str p.2], hR [str p.1]] ⟨by kernel_rfl, by kernel_rfl, rfl, rfl, rfl⟩ rfl rfl rfl (by (repeat' apply And.intro) <;> first | exact rN | exact rB | exact True.intro | omega | rfl | (simp only [inK]; omega) | exact decide_eq_true (by omega) | exact decide_eq_false (by omega) | (simp; done) | (simp; omega) | (simp [Value.oneCell']; done) | exact i64s_one _ | exact AggOk.mk (by kernel_rfl) (by kernel_rfl)) ?_
    refine At.run 100 true [] [] rfl (by (repeat' apply And.intro) <;> first | exact True.intro | omega | (simp only [inK]; omega) | (simp; done) | (simp; omega) | exact decide_eq_true (by omega) | exact decide_eq_false (by omega) | rfl | (simp [Value.oneCell']; done) | exact i64s_one _ | exact AggOk.mk (by kernel_rfl) (by kernel_rfl)) ?_
    refine At.weak (ih _ _ _ _ (by omega) ⟨i + 1, rfl, by omega, rfl, rfl, rfl⟩) ⟨rfl, some_int_eq (by omega), some_int_eq (by omega), trivial⟩
  · refine At.run 100 true [false] [] rfl (by (repeat' apply And.intro) <;> first | exact True.intro | omega | (simp only [inK]; omega) | (simp; done) | (simp; omega) | exact decide_eq_true (by omega) | exact decide_eq_false (by omega) | rfl | (simp [Value.oneCell']; done) | exact i64s_one _ | exact AggOk.mk (by kernel_rfl) (by kernel_rfl)) ?_
    refine At.retK [] [] [] rfl rfl Try.func19 rfl trivial ⟨?_, rfl, rfl⟩
    have h60 : decide (60 < S.length) = false := decide_eq_false (by omega)
    rw [List.take_of_length_le (by omega)]
    simp only [tupV, greatS, h60, Bool.false_or]
    congr 1
    rw [Bool.eq_iff_iff, decide_eq_true_iff, decide_eq_true_iff]
    show (6000 : Int) < ((capS S : Nat) : Int) ↔ 6000 < capS S
    omega

end Go.Proofs

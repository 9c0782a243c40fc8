/-
  Walks of layer 9: which files may be.
-/
import Derived.Test.YtfpoclhenokhhaaW43
import Derived.Test.YtfpoclhenokhhaaE25
namespace Go.Proofs
open Go Go.Eng
set_option maxRecDepth 100000
set_option maxHeartbeats 4000000
attribute [local irreducible] Tri

def mayS (S : FL) : Bool := decide (S.length ≤ 4096) && (S.all (okE namedB) && risN S)
theorem mayF1 {S : FL} {i : Nat} {p : List UInt8 × List UInt8} (h : S[i]? = some p) (hp : okE namedB p = false) : mayS S = false := by
  have : S.all (okE namedB) = false := by rw [List.all_eq_false]; exact ⟨p, List.mem_of_getElem? h, by rw [hp]; simp⟩
  simp [mayS, this]
theorem mayF2 {S : FL} (h : risN S = false) : mayS S = false := by simp [mayS, h]

theorem Try.dMay_w (S : FL) (a : Option Addr) (cap : Nat) (w : World) (hlen : S.length ≤ 9223372036854775807) (hrow : SlOk w a (fl S)) (hns : ∀ p, p ∈ S → p.1.length ≤ 9223372036854775807) :
    Fun Try.prog 38 [.slice a S.length cap] w (.bool (mayS S)) := by
  refine Tri.enter (bx := []) (hp := []) Try.func38 rfl (by kernel_rfl) rfl (Own.nil w) ?_
  refine At.run 100 true [] [] rfl (by (repeat' apply And.intro) <;> first | exact True.intro | omega | (simp only [inK]; omega) | (simp; done) | (simp; omega) | exact decide_eq_true (by omega) | exact decide_eq_false (by omega) | rfl | (simp [Value.oneCell']; done) | exact i64s_one _ | exact AggOk.mk (by kernel_rfl) (by kernel_rfl)) ?_
  refine At.loop (n := S.length) (env0 := [(0, .slice a S.length cap), (5, .slice a S.length cap), (6, .int .i64 S.length), (7, .int .i64 0)]) (fun m env bx hp => ∃ i : Nat, m = S.length - i ∧ i ≤ S.length ∧ (S.take i).all (okE namedB) = true ∧ (∀ t x y, t + 1 < i → S[t]? = some x → S[t + 1]? = some y → ltN x y = true) ∧
    env = [(0, .slice a S.length cap), (5, .slice a S.length cap), (6, .int .i64 S.length), (7, .int .i64 i)] ∧ bx = [] ∧ hp = []) rfl ⟨0, by simp, by omega, by simp, by omega, rfl, rfl, rfl⟩ ⟨rfl, rfl, rfl, rfl, trivial⟩ ?_
  rintro m env bx hp ⟨i, rfl, hi, hall, hris, rfl, rfl, rfl⟩ ih
  by_cases hlt : i < S.length
  · obtain ⟨p, hp⟩ : ∃ p, S[i]? = some p := ⟨_, List.getElem?_eq_getElem hlt⟩
    have hne : S ≠ [] := by intro h; rw [h] at hlt; simp at hlt
    obtain ⟨g, o, rfl, hc⟩ := hrow.get (fl_ne hne)
    have hm : g ∉ (⟨w, kys [] []⟩ : Base).mods := by simp [kys]
    have rE : ∀ {bx : Bx} {hp : List Seg}, RdW ⟨w, kys [] []⟩ bx hp g (o + (i : Int).toNat * 2) [str p.1, str p.2] := fun {_ _} => RdW.fileE hc hm hp (by omega)
    have hN : ∀ {bx : Bx} {hp : List Seg}, CallOb Try.prog ⟨w, kys [] []⟩ bx hp 70 [str p.1] (.bool (namedB p.1)) := fun {_ _} w' hw' => Try.named_w p.1 w' (hns p (List.mem_of_getElem? hp))
    refine At.run 100 true [true] [hR [str p.1, str p.2]] rfl (by (repeat' apply And.intro) <;> first | exact rE | exact True.intro | omega | rfl | (simp only [inK]; omega) | exact decide_eq_true (by omega) | exact decide_eq_false (by omega) | (simp; done) | (simp; omega) | (simp [Value.oneCell']; done) | exact i64s_one _ | exact AggOk.mk (by kernel_rfl) (by kernel_rfl)) ?_
    refine At.step [] rfl rfl rfl rfl rfl trivial (OpOk.alloc (cs := [str [], str []]) rfl (by kernel_rfl) fun b4 hb4 => ?_)
    refine At.run 100 true [] [hB 0] rfl (by (repeat' apply And.intro) <;> first | simp [Value.oneCell', str]; done | exact True.intro | omega | rfl | (simp only [inK]; omega) | exact decide_eq_true (by omega) | exact decide_eq_false (by omega) | (simp; done) | (simp; omega) | (simp [Value.oneCell']; done) | exact i64s_one _ | exact AggOk.mk (by kernel_rfl) (by kernel_rfl)) ?_
    cases hn : namedB p.1 with
    | false =>
      rw [hn] at hN
      have hF := mayF1 hp (by simp [okE, hn])
      refine At.quiet true [true, true] [hB 0, hC (.bool false)] ⟨by kernel_rfl, by kernel_rfl, rfl, rfl, rfl⟩ rfl rfl rfl (by (repeat' apply And.intro) <;> first | exact hN | exact True.intro | omega | rfl | (simp only [inK]; omega) | exact decide_eq_true (by omega) | exact decide_eq_false (by omega) | (simp; done) | (simp; omega) | (simp [Value.oneCell']; done) | exact i64s_one _ | exact AggOk.mk (by kernel_rfl) (by kernel_rfl)) ?_
      refine At.run 100 true [true] [] rfl (by (repeat' apply And.intro) <;> first | exact True.intro | omega | (simp only [inK]; omega) | (simp; done) | (simp; omega) | exact decide_eq_true (by omega) | exact decide_eq_false (by omega) | rfl | (simp [Value.oneCell']; done) | exact i64s_one _ | exact AggOk.mk (by kernel_rfl) (by kernel_rfl)) ?_
      refine At.keep [] [] rfl ?_
      exact At.ret [] rfl Try.func38 rfl trivial ⟨by rw [hF]; rfl, rfl, rfl⟩
    | true =>
      rw [hn] at hN
      by_cases hb : p.2 = []
      · have hF := mayF1 hp (by simp [okE, hb])
        have hbe : decide (bl ⟨p.2.toArray⟩ = bl ⟨#[]⟩) = true := by rw [bl_of, hb]; rfl
        refine At.quiet true [false, true] [hB 0, hC (.bool true), hB 0] ⟨by kernel_rfl, by kernel_rfl, rfl, rfl, rfl⟩ rfl rfl rfl (by (repeat' apply And.intro) <;> first | exact hN | exact hbe | exact True.intro | omega | rfl | (simp only [inK]; omega) | exact decide_eq_true (by omega) | exact decide_eq_false (by omega) | (simp; done) | (simp; omega) | (simp [Value.oneCell']; done) | exact i64s_one _ | exact AggOk.mk (by kernel_rfl) (by kernel_rfl)) ?_
        refine At.run 100 true [true] [] rfl (by (repeat' apply And.intro) <;> first | exact hbe | exact True.intro | omega | rfl | (simp only [inK]; omega) | exact decide_eq_true (by omega) | exact decide_eq_false (by omega) | (simp; done) | (simp; omega) | (simp [Value.oneCell']; done) | exact i64s_one _ | exact AggOk.mk (by kernel_rfl) (by kernel_rfl)) ?_
        refine At.keep [] [] rfl ?_
        exact At.ret [] rfl Try.func38 rfl trivial ⟨by rw [hF]; rfl, rfl, rfl⟩
      · have hok : okE namedB p = true := by simp [okE, hn, hb]
        have hbe : decide (bl ⟨p.2.toArray⟩ = bl ⟨#[]⟩) = false := by rw [bl_of]; exact decide_eq_false hb
        have hall' : (S.take (i + 1)).all (okE namedB) = true := by rw [List.take_add_one, hp, List.all_append, hall]; simp [hok]
        by_cases hi0 : 0 < i
        · obtain ⟨q, hq⟩ : ∃ q, S[i - 1]? = some q := ⟨_, List.getElem?_eq_getElem (by omega)⟩
          have rQ : ∀ {bx : Bx} {hp : List Seg}, RdW ⟨w, kys [] []⟩ bx hp g (o + ((i : Int) - 1).toNat * 2 + 0) [str q.1] := fun {_ _} => RdW.fileN hc hm hq (by omega)
          have hpi : S[i - 1 + 1]? = some p := by rw [show i - 1 + 1 = i by omega]; exact hp
          cases hl : ltN q p with
          | false =>
            have hF := mayF2 (risN_false hq hpi hl)
            refine At.quiet true [false, false, true] [hB 0, hC (.bool true), hB 0, hR [str q.1], hB 0] ⟨by kernel_rfl, by kernel_rfl, rfl, rfl, rfl⟩ rfl rfl rfl (by (repeat' apply And.intro) <;> first | exact hN | exact rQ | exact hbe | exact True.intro | omega | rfl | (simp only [inK]; omega) | exact decide_eq_true (by omega) | exact decide_eq_false (by omega) | (simp; done) | (simp; omega) | (simp [Value.oneCell']; done) | exact i64s_one _ | exact AggOk.mk (by kernel_rfl) (by kernel_rfl)) ?_
            refine At.run 100 true [true] [] rfl (by (repeat' apply And.intro) <;> first | (simp only [bl_of]; rw [show Op.bytesLess q.1 p.1 = false from hl]; rfl) | exact True.intro | omega | rfl | (simp only [inK]; omega) | exact decide_eq_true (by omega) | exact decide_eq_false (by omega) | (simp; done) | (simp; omega) | (simp [Value.oneCell']; done) | exact i64s_one _ | exact AggOk.mk (by kernel_rfl) (by kernel_rfl)) ?_
            refine At.keep [] [] rfl ?_
            exact At.ret [] rfl Try.func38 rfl trivial ⟨by rw [hF]; rfl, rfl, rfl⟩
          | true =>
            refine At.quiet true [false, false, true] [hB 0, hC (.bool true), hB 0, hR [str q.1], hB 0] ⟨by kernel_rfl, by kernel_rfl, rfl, rfl, rfl⟩ rfl rfl rfl (by (repeat' apply And.intro) <;> first | exact hN | exact rQ | exact hbe | exact True.intro | omega | rfl | (simp only [inK]; omega) | exact decide_eq_true (by omega) | exact decide_eq_false (by omega) | (simp; done) | (simp; omega) | (simp [Value.oneCell']; done) | exact i64s_one _ | exact AggOk.mk (by kernel_rfl) (by kernel_rfl)) ?_
            refine At.run 100 true [false] [] rfl (by (repeat' apply And.intro) <;> first | (simp only [bl_of]; rw [show Op.bytesLess q.1 p.1 = true from hl]; rfl) | exact True.intro | omega | rfl | (simp only [inK]; omega) | exact decide_eq_true (by omega) | exact decide_eq_false (by omega) | (simp; done) | (simp; omega) | (simp [Value.oneCell']; done) | exact i64s_one _ | exact AggOk.mk (by kernel_rfl) (by kernel_rfl)) ?_
            refine At.keep [] [] rfl ?_
            refine At.weak (ih _ _ _ _ (by omega) ⟨i + 1, rfl, by omega, hall', fun t x y ht hx hy => ?_, rfl, rfl, rfl⟩) ⟨rfl, rfl, rfl, some_int_eq (by omega), trivial⟩
            by_cases hti : t + 1 < i
            · exact hris t x y hti hx hy
            · have : t = i - 1 := by omega
              subst this
              rw [hq] at hx; rw [hpi] at hy
              cases hx; cases hy; exact hl
        · have : i = 0 := by omega
          subst this
          refine At.quiet true [false, false, false] [hB 0, hC (.bool true), hB 0] ⟨by kernel_rfl, by kernel_rfl, rfl, rfl, rfl⟩ rfl rfl rfl (by (repeat' apply And.intro) <;> first | exact hN | exact hbe | exact True.intro | omega | rfl | (simp only [inK]; omega) | exact decide_eq_true (by omega) | exact decide_eq_false (by omega) | (simp; done) | (simp; omega) | (simp [Value.oneCell']; done) | exact i64s_one _ | exact AggOk.mk (by kernel_rfl) (by kernel_rfl)) ?_
          refine At.run 100 true [false] [] rfl (by (repeat' apply And.intro) <;> first | exact True.intro | omega | (simp only [inK]; omega) | (simp; done) | (simp; omega) | exact decide_eq_true (by omega) | exact decide_eq_false (by omega) | rfl | (simp [Value.oneCell']; done) | exact i64s_one _ | exact AggOk.mk (by kernel_rfl) (by kernel_rfl)) ?_
          refine At.keep [] [] rfl ?_
          exact At.weak (ih _ _ _ _ (by omega) ⟨0 + 1, rfl, by omega, hall', by omega, rfl, rfl, rfl⟩) ⟨rfl, rfl, rfl, some_int_eq (by omega), trivial⟩
  · have hi' : S.length ≤ i := by omega
    have h1 : S.all (okE namedB) = true := by rw [List.take_of_length_le hi'] at hall; exact hall
    have h2 := risN_ok hris hi'
    refine At.run 100 true [false] [] rfl (by (repeat' apply And.intro) <;> first | exact True.intro | omega | (simp only [inK]; omega) | (simp; done) | (simp; omega) | exact decide_eq_true (by omega) | exact decide_eq_false (by omega) | rfl | (simp [Value.oneCell']; done) | exact i64s_one _ | exact AggOk.mk (by kernel_rfl) (by kernel_rfl)) ?_
    refine At.retK [] [] [] rfl rfl Try.func38 rfl trivial ⟨?_, rfl, rfl⟩
    simp only [tupV, mayS, h1, h2, Bool.and_true]
    congr 1
    rw [Bool.eq_iff_iff]; simp <;> omega

end Go.Proofs

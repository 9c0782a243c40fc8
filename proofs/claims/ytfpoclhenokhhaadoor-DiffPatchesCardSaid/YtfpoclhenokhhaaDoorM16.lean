/-
  Walks of layer 14: numbers compared, one by one.
-/
import Derived.Test.YtfpoclhenokhhaaDoorM9
import Derived.Test.YtfpoclhenokhhaaDoorM5
import Derived.Test.YtfpoclhenokhhaaDoorM13
import Derived.Test.YtfpoclhenokhhaaDoorM15
/-
  Walks of layer 14: numbers compared, one by one.
-/
namespace Go.Proofs
open Go Go.Eng
set_option maxRecDepth 100000
set_option maxHeartbeats 4000000
attribute [local irreducible] Tri

def cmpL : List Int → List Int → Int
  | [], [] => 0
  | [], _ :: _ => -1
  | _ :: _, [] => 1
  | x :: a, y :: b => if cmpI x y = 0 then cmpL a b else cmpI x y
theorem cmpL_drop {xs ys : List Int} : ∀ {i : Nat}, (∀ k x y, k < i → xs[k]? = some x → ys[k]? = some y → x = y) → i ≤ xs.length → i ≤ ys.length → cmpL xs ys = cmpL (xs.drop i) (ys.drop i)
  | 0, _, _, _ => by simp
  | i + 1, h, h1, h2 => by
    rw [cmpL_drop (i := i) (fun k x y hk => h k x y (by omega)) (by omega) (by omega), List.drop_eq_getElem_cons (by omega), List.drop_eq_getElem_cons (show i < ys.length by omega), cmpL, if_pos]
    rw [cmpI_eq]
    exact h i _ _ (by omega) (List.getElem?_eq_getElem (by omega)) (List.getElem?_eq_getElem (by omega))

theorem RdW.i64 {S : Base} {bx : Bx} {hp : List Seg} {g o off i : Nat} {xs : List Int} {x : Int} (hc : ∀ j u, (i64s xs)[j]? = some u → S.w0.cell? ⟨g, o + j, none⟩ = some u) (hm : g ∉ S.mods) (hx : xs[i]? = some x) (ho : off = o + i) : RdW S bx hp g off [.int .i64 x] :=
  RdW.sl hc hm i (by omega) (fun j u hu => by
    match j, hu with
    | 0, hu => simp only [List.getElem?_cons_zero, Option.some.injEq] at hu; subst hu; rw [Nat.add_zero]; exact i64s_get hx)
theorem i64s_ne {xs : List Int} {i : Nat} {x : Int} (h : xs[i]? = some x) : i64s xs ≠ [] := by
  intro e
  have := congrArg List.length e
  rw [i64s_len] at this
  have h2 := (List.getElem?_eq_some_iff.1 h).1
  simp at this
  rw [this] at h2; simp at h2

theorem Tryd.equal_w (xs ys : List Int) (a b : Option Addr) (ca cb : Nat) (w : World) (hx : xs.length ≤ 9223372036854775807) (hy : ys.length ≤ 9223372036854775807) (ha : SlOk w a (i64s xs)) (hb : SlOk w b (i64s ys)) :
    Fun Tryd.prog 25 [.slice a xs.length ca, .slice b ys.length cb] w (.bool (decide (xs = ys))) := by
  refine Tri.enter (bx := []) (hp := []) Tryd.func25 rfl (by kernel_rfl) rfl (Own.nil w) ?_
  by_cases hl : xs.length = ys.length
  · refine At.run 100 true [false] [] rfl (by (repeat' apply And.intro) <;> first | (simp [hl]; done) | exact True.intro | omega | rfl | (simp only [inK]; omega) | exact decide_eq_true (by omega) | exact decide_eq_false (by omega) | (simp; done) | (simp; omega) | (simp [Value.oneCell']; done) | exact i64s_one _ | exact AggOk.mk (by kernel_rfl) (by kernel_rfl)) ?_
    refine At.loop (n := xs.length) (env0 := [(0, .slice a xs.length ca), (1, .slice b ys.length cb), (12, .int .i64 xs.length), (13, .int .i64 0)]) (fun m env bx hp => ∃ i : Nat, m = xs.length - i ∧ i ≤ xs.length ∧ xs.take i = ys.take i ∧
      env = [(0, .slice a xs.length ca), (1, .slice b ys.length cb), (12, .int .i64 xs.length), (13, .int .i64 i)] ∧ bx = [] ∧ hp = []) rfl ⟨0, by simp, by omega, by simp, rfl, rfl, rfl⟩ ⟨rfl, rfl, rfl, rfl, trivial⟩ ?_
    rintro m env bx hp ⟨i, rfl, hi, htk, rfl, rfl, rfl⟩ ih
    by_cases hlt : i < xs.length
    · obtain ⟨x, hxi⟩ : ∃ x, xs[i]? = some x := ⟨_, List.getElem?_eq_getElem hlt⟩
      obtain ⟨y, hyi⟩ : ∃ y, ys[i]? = some y := ⟨_, List.getElem?_eq_getElem (by omega)⟩
      obtain ⟨g, o, rfl, hc⟩ := ha.get (i64s_ne hxi)
      obtain ⟨g2, o2, rfl, hc2⟩ := hb.get (i64s_ne hyi)
      have hm1 : g ∉ (⟨w, kys [] []⟩ : Base).mods := by simp [kys]
      have hm2 : g2 ∉ (⟨w, kys [] []⟩ : Base).mods := by simp [kys]
      have rX : ∀ {bx : Bx} {hp : List Seg}, RdW ⟨w, kys [] []⟩ bx hp g (o + (i : Int).toNat * 1) [.int .i64 x] := fun {_ _} => RdW.i64 hc hm1 hxi (by omega)
      have rY : ∀ {bx : Bx} {hp : List Seg}, RdW ⟨w, kys [] []⟩ bx hp g2 (o2 + (i : Int).toNat * 1) [.int .i64 y] := fun {_ _} => RdW.i64 hc2 hm2 hyi (by omega)
      refine At.run 100 true [true] [] rfl (by (repeat' apply And.intro) <;> first | exact True.intro | omega | (simp only [inK]; omega) | (simp; done) | (simp; omega) | exact decide_eq_true (by omega) | exact decide_eq_false (by omega) | rfl | (simp [Value.oneCell']; done) | exact i64s_one _ | exact AggOk.mk (by kernel_rfl) (by kernel_rfl)) ?_
      refine At.quiet true [] [hR [.int .i64 x], hR [.int .i64 y]] ⟨by kernel_rfl, by kernel_rfl, rfl, rfl, rfl⟩ rfl rfl rfl (by (repeat' apply And.intro) <;> first | exact rX | exact rY | exact True.intro | omega | rfl | (simp only [inK]; omega) | exact decide_eq_true (by omega) | exact decide_eq_false (by omega) | (simp; done) | (simp; omega) | (simp [Value.oneCell']; done) | exact i64s_one _ | exact AggOk.mk (by kernel_rfl) (by kernel_rfl)) ?_
      by_cases hxy : x = y
      · subst hxy
        refine At.run 100 true [false] [] rfl (by (repeat' apply And.intro) <;> first | (simp; done) | exact True.intro | omega | rfl | (simp only [inK]; omega) | exact decide_eq_true (by omega) | exact decide_eq_false (by omega) | (simp; done) | (simp; omega) | (simp [Value.oneCell']; done) | exact i64s_one _ | exact AggOk.mk (by kernel_rfl) (by kernel_rfl)) ?_
        exact At.weak (ih _ _ _ _ (by omega) ⟨i + 1, rfl, by omega, by rw [List.take_add_one, List.take_add_one, hxi, hyi, htk], rfl, rfl, rfl⟩) ⟨rfl, rfl, rfl, some_int_eq (by omega), trivial⟩
      · refine At.run 100 true [true] [] rfl (by (repeat' apply And.intro) <;> first | (simp [hxy]; done) | exact True.intro | omega | rfl | (simp only [inK]; omega) | exact decide_eq_true (by omega) | exact decide_eq_false (by omega) | (simp; done) | (simp; omega) | (simp [Value.oneCell']; done) | exact i64s_one _ | exact AggOk.mk (by kernel_rfl) (by kernel_rfl)) ?_
        have hne : xs ≠ ys := by intro e; subst e; rw [hxi] at hyi; cases hyi; exact hxy rfl
        rw [decide_eq_false hne]
        exact At.retK [] [] [] rfl rfl Tryd.func25 rfl trivial ⟨rfl, rfl, rfl⟩
    · have he : xs = ys := by
        rw [List.take_of_length_le (by omega), List.take_of_length_le (by omega)] at htk; exact htk
      rw [decide_eq_true he]
      refine At.run 100 true [false] [] rfl (by (repeat' apply And.intro) <;> first | exact True.intro | omega | (simp only [inK]; omega) | (simp; done) | (simp; omega) | exact decide_eq_true (by omega) | exact decide_eq_false (by omega) | rfl | (simp [Value.oneCell']; done) | exact i64s_one _ | exact AggOk.mk (by kernel_rfl) (by kernel_rfl)) ?_
      exact At.retK [] [] [] rfl rfl Tryd.func25 rfl trivial ⟨rfl, rfl, rfl⟩
  · have hne : xs ≠ ys := fun e => hl (by rw [e])
    rw [decide_eq_false hne]
    refine At.run 100 true [true] [] rfl (by (repeat' apply And.intro) <;> first | (simp; omega) | exact True.intro | omega | rfl | (simp only [inK]; omega) | exact decide_eq_true (by omega) | exact decide_eq_false (by omega) | (simp; done) | (simp; omega) | (simp [Value.oneCell']; done) | exact i64s_one _ | exact AggOk.mk (by kernel_rfl) (by kernel_rfl)) ?_
    exact At.retK [] [] [] rfl rfl Tryd.func25 rfl trivial ⟨rfl, rfl, rfl⟩

theorem Tryd.compareL_w (xs ys : List Int) (a b : Option Addr) (ca cb : Nat) (w : World) (hl : xs.length = ys.length) (hx : xs.length ≤ 9223372036854775807) (ha : SlOk w a (i64s xs)) (hb : SlOk w b (i64s ys)) :
    Fun Tryd.prog 56 [.slice a xs.length ca, .slice b ys.length cb] w (.int .i64 (cmpL xs ys)) := by
  refine Tri.enter (bx := []) (hp := []) Tryd.func56 rfl (by kernel_rfl) rfl (Own.nil w) ?_
  refine At.run 100 true [] [] rfl (by (repeat' apply And.intro) <;> first | exact True.intro | omega | (simp only [inK]; omega) | (simp; done) | (simp; omega) | exact decide_eq_true (by omega) | exact decide_eq_false (by omega) | rfl | (simp [Value.oneCell']; done) | exact i64s_one _ | exact AggOk.mk (by kernel_rfl) (by kernel_rfl)) ?_
  refine At.loop (n := xs.length) (env0 := [(0, .slice a xs.length ca), (1, .slice b ys.length cb), (9, .slice a xs.length ca), (10, .int .i64 xs.length), (11, .int .i64 0)]) (fun m env bx hp => ∃ i : Nat, m = xs.length - i ∧ i ≤ xs.length ∧ (∀ k x y, k < i → xs[k]? = some x → ys[k]? = some y → x = y) ∧
    env = [(0, .slice a xs.length ca), (1, .slice b ys.length cb), (9, .slice a xs.length ca), (10, .int .i64 xs.length), (11, .int .i64 i)] ∧ bx = [] ∧ hp = []) rfl ⟨0, by simp, by omega, by omega, rfl, rfl, rfl⟩ ⟨rfl, rfl, rfl, rfl, rfl, trivial⟩ ?_
  rintro m env bx hp ⟨i, rfl, hi, hall, rfl, rfl, rfl⟩ ih
  have hdr := cmpL_drop hall hi (by omega)
  by_cases hlt : i < xs.length
  · obtain ⟨x, hxi⟩ : ∃ x, xs[i]? = some x := ⟨_, List.getElem?_eq_getElem hlt⟩
    obtain ⟨y, hyi⟩ : ∃ y, ys[i]? = some y := ⟨_, List.getElem?_eq_getElem (by omega)⟩
    obtain ⟨g, o, rfl, hc⟩ := ha.get (i64s_ne hxi)
    obtain ⟨g2, o2, rfl, hc2⟩ := hb.get (i64s_ne hyi)
    have hm1 : g ∉ (⟨w, kys [] []⟩ : Base).mods := by simp [kys]
    have hm2 : g2 ∉ (⟨w, kys [] []⟩ : Base).mods := by simp [kys]
    have rX : ∀ {bx : Bx} {hp : List Seg}, RdW ⟨w, kys [] []⟩ bx hp g (o + (i : Int).toNat * 1) [.int .i64 x] := fun {_ _} => RdW.i64 hc hm1 hxi (by omega)
    have rY : ∀ {bx : Bx} {hp : List Seg}, RdW ⟨w, kys [] []⟩ bx hp g2 (o2 + (i : Int).toNat * 1) [.int .i64 y] := fun {_ _} => RdW.i64 hc2 hm2 hyi (by omega)
    have hCC : ∀ {bx : Bx} {hp : List Seg}, CallOb Tryd.prog ⟨w, kys [] []⟩ bx hp 32 [.int .i64 x, .int .i64 y] (.int .i64 (cmpI x y)) := fun {_ _} w' _ => Tryd.compare_w x y w'
    have hci := cmpI_in x y
    by_cases hxy : x = y
    · have h0 : cmpI x y = 0 := cmpI_eq.2 hxy
      rw [h0] at hCC
      refine At.run 100 true [true, false, false] [hR [.int .i64 x], hR [.int .i64 y], Eng.hC (.int .i64 0)] rfl (by (repeat' apply And.intro) <;> first | exact rX | exact rY | exact hCC | exact True.intro | omega | rfl | (simp only [inK]; omega) | exact decide_eq_true (by omega) | exact decide_eq_false (by omega) | (simp; done) | (simp; omega) | (simp [Value.oneCell']; done) | exact i64s_one _ | exact AggOk.mk (by kernel_rfl) (by kernel_rfl)) ?_
      refine At.weak (ih _ _ _ _ (by omega) ⟨i + 1, rfl, by omega, fun k p q hk hp hq => ?_, rfl, rfl, rfl⟩) ⟨rfl, rfl, rfl, rfl, some_int_eq (by omega), trivial⟩
      by_cases hki : k = i
      · subst hki; rw [hxi] at hp; rw [hyi] at hq; cases hp; cases hq; exact hxy
      · exact hall k p q (by omega) hp hq
    · have h0 : cmpI x y ≠ 0 := fun e => hxy (cmpI_eq.1 e)
      have hv : cmpL xs ys = cmpI x y := by
        rw [hdr, List.drop_eq_getElem_cons hlt, List.drop_eq_getElem_cons (show i < ys.length by omega)]
        rw [List.getElem?_eq_getElem hlt] at hxi
        rw [List.getElem?_eq_getElem (show i < ys.length by omega)] at hyi
        rw [Option.some.inj hxi, Option.some.inj hyi, cmpL, if_neg h0]
      rw [hv]
      refine At.run 100 true [true, false, true] [hR [.int .i64 x], hR [.int .i64 y], Eng.hC (.int .i64 (cmpI x y))] rfl (by (repeat' apply And.intro) <;> first | exact rX | exact rY | exact hCC | (simp; omega) | exact True.intro | omega | rfl | (simp only [inK]; omega) | exact decide_eq_true (by omega) | exact decide_eq_false (by omega) | (simp; done) | (simp; omega) | (simp [Value.oneCell']; done) | exact i64s_one _ | exact AggOk.mk (by kernel_rfl) (by kernel_rfl)) ?_
      exact At.retK [] [] [] rfl rfl Tryd.func56 rfl trivial ⟨rfl, rfl, rfl⟩
  · have hv : cmpL xs ys = 0 := by rw [hdr, List.drop_of_length_le (by omega), List.drop_of_length_le (by omega)]; rfl
    rw [hv]
    refine At.run 100 true [false, false] [] rfl (by (repeat' apply And.intro) <;> first | (simp; omega) | exact True.intro | omega | rfl | (simp only [inK]; omega) | exact decide_eq_true (by omega) | exact decide_eq_false (by omega) | (simp; done) | (simp; omega) | (simp [Value.oneCell']; done) | exact i64s_one _ | exact AggOk.mk (by kernel_rfl) (by kernel_rfl)) ?_
    exact At.retK [] [] [] rfl rfl Tryd.func56 rfl trivial ⟨rfl, rfl, rfl⟩

def kl (k : K3T) : List Int := [k.1, k.2.1, k.2.2]
theorem Tryd.ahead_w (k l : K3T) (w : World) : Fun Tryd.prog 24 [key3 k, key3 l] w (.int .i64 (cmpL (kl k) (kl l))) := by
  obtain ⟨k1, k2, k3⟩ := k
  obtain ⟨l1, l2, l3⟩ := l
  refine Tri.enter (bx := []) (hp := []) Tryd.func24 rfl (by kernel_rfl) rfl (Own.nil w) ?_
  refine At.run 100 true [] [] rfl trivial ?_
  refine At.step [] rfl rfl rfl rfl rfl trivial (OpOk.box rfl rfl rfl fun bq hbq => ?_)
  refine At.step [] rfl rfl rfl rfl rfl trivial (OpOk.box rfl rfl rfl fun b3 hb3 => ?_)
  have hCC : CallOb Tryd.prog ⟨w, kys [] []⟩ [(b3, 62, i64s [l1, l2, l3]), (bq, 62, i64s [k1, k2, k3])] [] 56 [.slice (some ⟨bq, 0, none⟩) 3 3, .slice (some ⟨b3, 0, none⟩) 3 3] (.int .i64 (cmpL [k1, k2, k3] [l1, l2, l3])) := fun w' hw' =>
    Tryd.compareL_w [k1, k2, k3] [l1, l2, l3] _ _ 3 3 w' rfl (by simp) (SlOk.blk (hw'.bx (bq, 62, i64s [k1, k2, k3]) (by simp))) (SlOk.blk (hw'.bx (b3, 62, i64s [l1, l2, l3]) (by simp)))
  refine At.run 100 true [] [] rfl (by (repeat' apply And.intro) <;> first | exact True.intro | omega | (simp only [inK]; omega) | (simp; done) | (simp; omega) | exact decide_eq_true (by omega) | exact decide_eq_false (by omega) | rfl | (simp [Value.oneCell']; done) | exact i64s_one _ | exact AggOk.mk (by kernel_rfl) (by kernel_rfl)) ?_
  refine At.quiet true [] [Eng.hC (.int .i64 (cmpL [k1, k2, k3] [l1, l2, l3]))] ⟨by kernel_rfl, by kernel_rfl, rfl, rfl, rfl⟩ rfl rfl rfl (by (repeat' apply And.intro) <;> first | exact hCC | exact True.intro | omega | rfl | (simp only [inK]; omega) | exact decide_eq_true (by omega) | exact decide_eq_false (by omega) | (simp; done) | (simp; omega) | (simp [Value.oneCell']; done) | exact i64s_one _ | exact AggOk.mk (by kernel_rfl) (by kernel_rfl)) ?_
  refine At.run 100 true [] [] rfl (by (repeat' apply And.intro) <;> first | exact True.intro | omega | (simp only [inK]; omega) | (simp; done) | (simp; omega) | exact decide_eq_true (by omega) | exact decide_eq_false (by omega) | rfl | (simp [Value.oneCell']; done) | exact i64s_one _ | exact AggOk.mk (by kernel_rfl) (by kernel_rfl)) ?_
  exact At.retK [] [] [] rfl rfl Tryd.func24 rfl trivial ⟨rfl, rfl, rfl⟩

end Go.Proofs

/-
  Walk of layer 11's document: whether two columns are the same.
-/
namespace Go.Proofs
open Go Go.Eng
set_option maxRecDepth 100000
set_option maxHeartbeats 4000000
attribute [local irreducible] Tri

theorem take_succ_get {α : Type} {l : List α} {i : Nat} {x : α} (h : l[i]? = some x) : l.take (i + 1) = l.take i ++ [x] := by
  rw [List.take_add_one, h]; rfl

theorem Tryd.same_w (xs ys : List Int) (a b : Option Addr) (c1 c2 : Nat) (w : World) (hx : SlOk w a (i64s xs)) (hy : SlOk w b (i64s ys)) (hlx : xs.length < 9223372036854775807) :
    Fun Tryd.prog 33 [.slice a xs.length c1, .slice b ys.length c2] w (.bool (decide (xs = ys))) := by
  refine Tri.enter (bx := []) (hp := []) Tryd.func33 rfl (by kernel_rfl) rfl (Own.nil w) ?_
  by_cases hl : xs.length = ys.length
  · refine At.run 100 true [false] [] rfl (by (repeat' apply And.intro) <;> first | exact True.intro | omega | (simp only [inK]; omega) | (simp; done) | (simp; omega) | exact decide_eq_true (by omega) | exact decide_eq_false (by omega) | rfl | (simp [Value.oneCell']; done) | exact i64s_one _ | exact AggOk.mk (by kernel_rfl) (by kernel_rfl)) ?_
    refine At.loop (n := xs.length) (env0 := [(0, .slice a xs.length c1), (1, .slice b ys.length c2), (5, .int .i64 0)]) (fun m env bx hp => ∃ i : Nat, m = xs.length - i ∧ i ≤ xs.length ∧ xs.take i = ys.take i ∧
      env = [(0, .slice a xs.length c1), (1, .slice b ys.length c2), (5, .int .i64 i)] ∧ bx = [] ∧ hp = []) rfl ⟨0, by simp, by omega, by simp, rfl, rfl, rfl⟩ ⟨rfl, rfl, rfl, trivial⟩ ?_
    rintro m env bx hp ⟨i, rfl, hi, ht, rfl, rfl, rfl⟩ ih
    by_cases hlt : i < xs.length
    · refine At.run 100 true [true] [] rfl (by (repeat' apply And.intro) <;> first | exact True.intro | omega | (simp only [inK]; omega) | (simp; done) | (simp; omega) | exact decide_eq_true (by omega) | exact decide_eq_false (by omega) | rfl | (simp [Value.oneCell']; done) | exact i64s_one _ | exact AggOk.mk (by kernel_rfl) (by kernel_rfl)) ?_
      obtain ⟨x, hxi⟩ : ∃ x, xs[i]? = some x := ⟨_, List.getElem?_eq_getElem hlt⟩
      obtain ⟨y, hyi⟩ : ∃ y, ys[i]? = some y := ⟨_, List.getElem?_eq_getElem (by omega)⟩
      obtain ⟨g, o, rfl, hc⟩ := hx.get (by intro e; simp only [i64s, List.map_eq_nil_iff] at e; rw [e] at hlt; simp at hlt)
      obtain ⟨g2, o2, rfl, hc2⟩ := hy.get (by intro e; simp only [i64s, List.map_eq_nil_iff] at e; rw [e] at hl; simp only [List.length_nil] at hl; omega)
      have r1 : ∀ {bx : Bx} {hp : List Seg}, RdW ⟨w, kys [] []⟩ bx hp g (o + (i : Int).toNat * 1) [.int .i64 x] := fun {_ _} => RdW.base1 (by simp [kys]) (by rw [Nat.mul_one]; exact hc i _ (i64s_get hxi))
      have r2 : ∀ {bx : Bx} {hp : List Seg}, RdW ⟨w, kys [] []⟩ bx hp g2 (o2 + (i : Int).toNat * 1) [.int .i64 y] := fun {_ _} => RdW.base1 (by simp [kys]) (by rw [Nat.mul_one]; exact hc2 i _ (i64s_get hyi))
      refine At.quiet true [] [hR [.int .i64 x], hR [.int .i64 y]] ⟨by kernel_rfl, by kernel_rfl, rfl, rfl, rfl⟩ rfl rfl rfl (by (repeat' apply And.intro) <;> first | exact r1 | exact r2 | exact True.intro | omega | rfl | (simp only [inK]; omega) | exact decide_eq_true (by omega) | exact decide_eq_false (by omega) | (simp; done) | (simp; omega) | (simp [Value.oneCell']; done) | exact i64s_one _ | exact AggOk.mk (by kernel_rfl) (by kernel_rfl)) ?_
      by_cases he : x = y
      · refine At.run 100 true [false] [] rfl (by (repeat' apply And.intro) <;> first | simp [he]; done | exact True.intro | omega | rfl | (simp only [inK]; omega) | exact decide_eq_true (by omega) | exact decide_eq_false (by omega) | (simp; done) | (simp; omega) | (simp [Value.oneCell']; done) | exact i64s_one _ | exact AggOk.mk (by kernel_rfl) (by kernel_rfl)) ?_
        refine At.weak (ih (xs.length - (i + 1)) _ _ _ (by omega) ⟨i + 1, rfl, by omega, by rw [take_succ_get hxi, take_succ_get hyi, ht, he], rfl, rfl, rfl⟩) ⟨rfl, rfl, some_int_eq (by omega), trivial⟩
      · refine At.run 100 true [true] [] rfl (by (repeat' apply And.intro) <;> first | simp [he]; done | exact True.intro | omega | rfl | (simp only [inK]; omega) | exact decide_eq_true (by omega) | exact decide_eq_false (by omega) | (simp; done) | (simp; omega) | (simp [Value.oneCell']; done) | exact i64s_one _ | exact AggOk.mk (by kernel_rfl) (by kernel_rfl)) ?_
        refine At.ret [] rfl Tryd.func33 rfl trivial ⟨?_, rfl, rfl⟩
        have : xs ≠ ys := by intro e; subst e; rw [hxi] at hyi; cases hyi; exact he rfl
        simp [tupV, this]
    · have : i = xs.length := by omega
      subst this
      refine At.run 100 true [false] [] rfl (by (repeat' apply And.intro) <;> first | exact True.intro | omega | (simp only [inK]; omega) | (simp; done) | (simp; omega) | exact decide_eq_true (by omega) | exact decide_eq_false (by omega) | rfl | (simp [Value.oneCell']; done) | exact i64s_one _ | exact AggOk.mk (by kernel_rfl) (by kernel_rfl)) ?_
      refine At.ret [] rfl Tryd.func33 rfl trivial ⟨?_, rfl, rfl⟩
      have : xs = ys := by rw [List.take_length, hl, List.take_length] at ht; exact ht
      simp [tupV, this]
  · refine At.run 100 true [true] [] rfl (by (repeat' apply And.intro) <;> first | simp; omega | exact True.intro | omega | rfl | (simp only [inK]; omega) | exact decide_eq_true (by omega) | exact decide_eq_false (by omega) | (simp; done) | (simp; omega) | (simp [Value.oneCell']; done) | exact i64s_one _ | exact AggOk.mk (by kernel_rfl) (by kernel_rfl)) ?_
    refine At.ret [] rfl Tryd.func33 rfl trivial ⟨?_, rfl, rfl⟩
    have : xs ≠ ys := by intro e; subst e; exact hl rfl
    simp [tupV, this]

end Go.Proofs

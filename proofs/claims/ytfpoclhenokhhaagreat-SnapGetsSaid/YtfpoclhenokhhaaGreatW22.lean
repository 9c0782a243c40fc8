/-
  Walks of layer 12: books.
-/
import Derived.Test.YtfpoclhenokhhaaGreatW21
namespace Go.Proofs
open Go Go.Eng
set_option maxRecDepth 100000
set_option maxHeartbeats 4000000
attribute [local irreducible] Tri

theorem ris_ok {lt : List Int → List Int → Bool} {l : List (List Int)} {i : Nat} (h : ∀ t x y, t + 1 < i → l[t]? = some x → l[t + 1]? = some y → lt x y = true) (hi : l.length ≤ i) : ris lt l = true :=
  (ris_iff l).2 fun t x y hx hy => h t x y (by have := (List.getElem?_eq_some_iff.1 hy).1; omega) hx hy
theorem fnd_mem {l : List (List Int)} {k : Int} {x : List Int} (h : fnd l k = some x) : x ∈ l := List.mem_of_find?_eq_some h

theorem Tryz.risingHolder_w (l : List (List Int)) (a : Option Addr) (cap : Nat) (w : World) (hl : ∀ x, x ∈ l → x.length = 4) (hlen : l.length ≤ 1048576) (hrow : SlOk w a (l.flatMap i64s)) :
    Fun Tryz.prog 93 [.slice a l.length cap, .func (.func 94) ⟨[]⟩ ⟨[]⟩, .func (.func 95) ⟨[]⟩ ⟨[]⟩] w (.bool (ris lt1 l)) := by
  refine Tri.enter (bx := []) (hp := []) Tryz.func93 rfl (by kernel_rfl) rfl (Own.nil w) ?_
  refine At.run 100 true [] [] rfl trivial ?_
  refine At.loop (n := l.length - 1) (env0 := [(0, .slice a l.length cap), (1, .func (.func 94) ⟨[]⟩ ⟨[]⟩), (2, .func (.func 95) ⟨[]⟩ ⟨[]⟩), (7, .int .i64 1)]) (fun m env bx hp => ∃ i : Nat, m = l.length - i ∧ 1 ≤ i ∧ i ≤ l.length + 1 ∧ (∀ t x y, t + 1 < i → l[t]? = some x → l[t + 1]? = some y → lt1 x y = true) ∧
    env = [(0, .slice a l.length cap), (1, .func (.func 94) ⟨[]⟩ ⟨[]⟩), (2, .func (.func 95) ⟨[]⟩ ⟨[]⟩), (7, .int .i64 i)] ∧ bx = [] ∧ hp = []) rfl ⟨1, rfl, by omega, by omega, fun t x y h => by omega, rfl, rfl, rfl⟩ ⟨rfl, rfl, rfl, rfl, trivial⟩ ?_
  rintro m env bx hp ⟨i, rfl, h1i, hi, hall, rfl, rfl, rfl⟩ ih
  by_cases hlt : i < l.length
  · obtain ⟨x, hx⟩ : ∃ x, l[i - 1]? = some x := ⟨_, List.getElem?_eq_getElem (by omega)⟩
    obtain ⟨y, hy⟩ : ∃ y, l[i]? = some y := ⟨_, List.getElem?_eq_getElem hlt⟩
    have hmx := List.mem_of_getElem? hx
    have hmy := List.mem_of_getElem? hy
    obtain ⟨g, o, rfl, hc⟩ := hrow.get (slNe (by decide) hl hx)
    have r1 : ∀ {bx : Bx} {hp : List Seg}, RdW ⟨w, kys [] []⟩ bx hp g (o + ((i : Int) - 1).toNat * 4) (i64s x) := fun {_ _} => RdW.rec hl hc (by simp [kys]) hx (by omega)
    have r2 : ∀ {bx : Bx} {hp : List Seg}, RdW ⟨w, kys [] []⟩ bx hp g (o + (i : Int).toNat * 4) (i64s y) := fun {_ _} => RdW.rec hl hc (by simp [kys]) hy (by omega)
    have hfalse := fun h => ris_false (lt := lt1) hx (by rw [show i - 1 + 1 = i by omega]; exact hy) h
    have hnext : lt1 x y = true → ∀ t u v, t + 1 < i + 1 → l[t]? = some u → l[t + 1]? = some v → lt1 u v = true := by
      intro hxy t u v ht hu hv
      by_cases hti : t = i - 1
      · subst hti
        rw [hx] at hu; cases hu
        rw [show i - 1 + 1 = i by omega, hy] at hv; cases hv; exact hxy
      · exact hall t u v (by omega) hu hv
    obtain ⟨x0, x1, x2, x3, rfl⟩ := len4 (hl x hmx)
    obtain ⟨y0, y1, y2, y3, rfl⟩ := len4 (hl y hmy)
    refine At.run 100 true [true] [] rfl (by (repeat' apply And.intro) <;> first | exact True.intro | omega | (simp only [inK]; omega) | (simp; done) | (simp; omega) | exact decide_eq_true (by omega) | exact decide_eq_false (by omega) | rfl | (simp [Value.oneCell']; done) | exact i64s_one _ | exact AggOk.mk (by kernel_rfl) (by kernel_rfl)) ?_
    refine At.quiet true [] [hR [.int .i64 x0, .int .i64 x1, .int .i64 x2, .int .i64 x3], hR [.int .i64 y0, .int .i64 y1, .int .i64 y2, .int .i64 y3], hC (.int .i64 y0), hC (.int .i64 (cmp1 [x0, x1, x2, x3] y0))] ⟨by kernel_rfl, by kernel_rfl, rfl, rfl, rfl⟩ rfl rfl rfl (by (repeat' apply And.intro) <;> first | exact r1 | exact r2 | exact fun w' _ => Tryz.holderKey_w .. | exact fun w' _ => Tryz.byHolder_w .. | exact True.intro | omega | rfl | (simp only [inK]; omega) | exact decide_eq_true (by omega) | exact decide_eq_false (by omega) | (simp; done) | (simp; omega) | (simp [Value.oneCell']; done) | exact i64s_one _ | exact AggOk.mk (by kernel_rfl) (by kernel_rfl)) ?_
    by_cases hcmp : cmp1 [x0, x1, x2, x3] y0 < 0
    · have hl2 : lt1 [x0, x1, x2, x3] [y0, y1, y2, y3] = true := decide_eq_true (cmpI_lt.1 hcmp)
      refine At.run 100 true [false] [] rfl (by (repeat' apply And.intro) <;> first | exact decide_eq_false (by omega) | exact True.intro | omega | rfl | (simp only [inK]; omega) | exact decide_eq_true (by omega) | exact decide_eq_false (by omega) | (simp; done) | (simp; omega) | (simp [Value.oneCell']; done) | exact i64s_one _ | exact AggOk.mk (by kernel_rfl) (by kernel_rfl)) ?_
      refine At.weak (ih (l.length - (i + 1)) _ _ _ (by omega) ⟨i + 1, rfl, by omega, by omega, hnext hl2, rfl, rfl, rfl⟩) ⟨rfl, rfl, rfl, some_int_eq (by omega), trivial⟩
    · have hl2 : lt1 [x0, x1, x2, x3] [y0, y1, y2, y3] = false := decide_eq_false (fun h => hcmp (cmpI_lt.2 h))
      refine At.run 100 true [true] [] rfl (by (repeat' apply And.intro) <;> first | exact decide_eq_true (by omega) | exact True.intro | omega | rfl | (simp only [inK]; omega) | exact decide_eq_true (by omega) | exact decide_eq_false (by omega) | (simp; done) | (simp; omega) | (simp [Value.oneCell']; done) | exact i64s_one _ | exact AggOk.mk (by kernel_rfl) (by kernel_rfl)) ?_
      exact At.ret [] rfl Tryz.func93 rfl trivial ⟨by rw [hfalse hl2]; rfl, rfl, rfl⟩
  · refine At.run 100 true [false] [] rfl (by (repeat' apply And.intro) <;> first | exact True.intro | omega | (simp only [inK]; omega) | (simp; done) | (simp; omega) | exact decide_eq_true (by omega) | exact decide_eq_false (by omega) | rfl | (simp [Value.oneCell']; done) | exact i64s_one _ | exact AggOk.mk (by kernel_rfl) (by kernel_rfl)) ?_
    exact At.ret [] rfl Tryz.func93 rfl trivial ⟨by rw [ris_ok hall (by omega)]; rfl, rfl, rfl⟩

theorem Tryz.findHolder_w (l : List (List Int)) (a : Option Addr) (cap : Nat) (k : Int) (w : World) (hl : ∀ x, x ∈ l → x.length = 4) (hlen : l.length ≤ 1048576) (hrow : SlOk w a (l.flatMap i64s)) (hris : ris lt1 l = true) :
    Fun Tryz.prog 105 [.slice a l.length cap, .int .i64 k, .func (.func 95) ⟨[]⟩ ⟨[]⟩] w (.tuple #[.agg ⟨i64s ((fnd l k).getD [0, 0, 0, 0])⟩, .bool (fnd l k).isSome]) := by
  refine Tri.enter (bx := []) (hp := []) Tryz.func105 rfl (by kernel_rfl) rfl (Own.nil w) ?_
  refine At.run 100 true [] [] rfl trivial ?_
  refine At.step [] rfl rfl rfl rfl rfl trivial (OpOk.alloc (cs := i64s [0, 0, 0, 0]) rfl (by kernel_rfl) fun b1 hb1 => ?_)
  have hfb := @fnd_bs l k hris
  have hs : ∀ {bx : Bx} {hp : List Seg}, CallOb Tryz.prog ⟨w, kys [] []⟩ bx hp 120 [.slice a l.length cap, .int .i64 k, .func (.func 95) ⟨[]⟩ ⟨[]⟩] (.tuple #[.int .i64 (bsI l k), .bool (bsF l k)]) :=
    fun {_ _} w' hw' => Tryz.searchHolder_w l a cap k w' hl hlen (hrow.ext hw'.ext (by simp [kys])) hris
  cases hF : bsF l k with
  | false =>
    rw [hF] at hs hfb
    rw [hfb]
    refine At.run 100 true [true] [hC (.tuple #[.int .i64 (bsI l k), .bool false])] rfl (by (repeat' apply And.intro) <;> first | exact hs | exact True.intro | omega | rfl | (simp only [inK]; omega) | exact decide_eq_true (by omega) | exact decide_eq_false (by omega) | (simp; done) | (simp; omega) | (simp [Value.oneCell']; done) | exact i64s_one _ | exact AggOk.mk (by kernel_rfl) (by kernel_rfl)) ?_
    refine At.step [] rfl rfl rfl rfl rfl trivial (OpOk.alloc (cs := i64s [0, 0, 0, 0]) rfl (by kernel_rfl) fun b2 hb2 => ?_)
    refine At.run 100 true [] [hB 0, hB 1] rfl (by (repeat' apply And.intro) <;> first | exact True.intro | omega | (simp only [inK]; omega) | (simp; done) | (simp; omega) | exact decide_eq_true (by omega) | exact decide_eq_false (by omega) | rfl | (simp [Value.oneCell']; done) | exact i64s_one _ | exact AggOk.mk (by kernel_rfl) (by kernel_rfl)) ?_
    exact At.retK [] [] [hB 1] rfl rfl Tryz.func105 rfl (by (repeat' apply And.intro) <;> first | exact True.intro | omega | (simp only [inK]; omega) | (simp; done) | (simp; omega) | exact decide_eq_true (by omega) | exact decide_eq_false (by omega) | rfl | (simp [Value.oneCell']; done) | exact i64s_one _ | exact AggOk.mk (by kernel_rfl) (by kernel_rfl)) ⟨rfl, rfl, rfl⟩
  | true =>
    rw [hF] at hs hfb
    obtain ⟨x, hx⟩ : ∃ x, l[bsI l k]? = some x := by
      unfold bsF at hF
      cases h : l[bsI l k]? with
      | none => rw [h] at hF; cases hF
      | some x => exact ⟨x, rfl⟩
    rw [hfb, hx]
    have hm := List.mem_of_getElem? hx
    obtain ⟨g, o, rfl, hc⟩ := hrow.get (slNe (by decide) hl hx)
    have r1 : ∀ {bx : Bx} {hp : List Seg}, RdW ⟨w, kys [] []⟩ bx hp g (o + ((bsI l k : Nat) : Int).toNat * 4) (i64s x) := fun {_ _} => RdW.rec hl hc (by simp [kys]) hx (by omega)
    have hbl := (List.getElem?_eq_some_iff.1 hx).1
    obtain ⟨x0, x1, x2, x3, rfl⟩ := len4 (hl x hm)
    refine At.run 100 true [false] [hC (.tuple #[.int .i64 (bsI l k), .bool true]), hR [.int .i64 x0, .int .i64 x1, .int .i64 x2, .int .i64 x3], hB 0] rfl (by (repeat' apply And.intro) <;> first | exact hs | exact r1 | exact True.intro | omega | rfl | (simp only [inK]; omega) | exact decide_eq_true (by omega) | exact decide_eq_false (by omega) | (simp; done) | (simp; omega) | (simp [Value.oneCell']; done) | exact i64s_one _ | exact AggOk.mk (by kernel_rfl) (by kernel_rfl)) ?_
    exact At.retK [] [] [hB 0] rfl rfl Tryz.func105 rfl (by (repeat' apply And.intro) <;> first | exact True.intro | omega | (simp only [inK]; omega) | (simp; done) | (simp; omega) | exact decide_eq_true (by omega) | exact decide_eq_false (by omega) | rfl | (simp [Value.oneCell']; done) | exact i64s_one _ | exact AggOk.mk (by kernel_rfl) (by kernel_rfl)) ⟨rfl, rfl, rfl⟩

theorem Tryz.risingOpen_w (l : List (List Int)) (a : Option Addr) (cap : Nat) (w : World) (hl : ∀ x, x ∈ l → x.length = 6) (hlen : l.length ≤ 1048576) (hrow : SlOk w a (l.flatMap i64s)) :
    Fun Tryz.prog 96 [.slice a l.length cap, .func (.func 97) ⟨[]⟩ ⟨[]⟩, .func (.func 98) ⟨[]⟩ ⟨[]⟩] w (.bool (ris lt1 l)) := by
  refine Tri.enter (bx := []) (hp := []) Tryz.func96 rfl (by kernel_rfl) rfl (Own.nil w) ?_
  refine At.run 100 true [] [] rfl trivial ?_
  refine At.loop (n := l.length - 1) (env0 := [(0, .slice a l.length cap), (1, .func (.func 97) ⟨[]⟩ ⟨[]⟩), (2, .func (.func 98) ⟨[]⟩ ⟨[]⟩), (7, .int .i64 1)]) (fun m env bx hp => ∃ i : Nat, m = l.length - i ∧ 1 ≤ i ∧ i ≤ l.length + 1 ∧ (∀ t x y, t + 1 < i → l[t]? = some x → l[t + 1]? = some y → lt1 x y = true) ∧
    env = [(0, .slice a l.length cap), (1, .func (.func 97) ⟨[]⟩ ⟨[]⟩), (2, .func (.func 98) ⟨[]⟩ ⟨[]⟩), (7, .int .i64 i)] ∧ bx = [] ∧ hp = []) rfl ⟨1, rfl, by omega, by omega, fun t x y h => by omega, rfl, rfl, rfl⟩ ⟨rfl, rfl, rfl, rfl, trivial⟩ ?_
  rintro m env bx hp ⟨i, rfl, h1i, hi, hall, rfl, rfl, rfl⟩ ih
  by_cases hlt : i < l.length
  · obtain ⟨x, hx⟩ : ∃ x, l[i - 1]? = some x := ⟨_, List.getElem?_eq_getElem (by omega)⟩
    obtain ⟨y, hy⟩ : ∃ y, l[i]? = some y := ⟨_, List.getElem?_eq_getElem hlt⟩
    have hmx := List.mem_of_getElem? hx
    have hmy := List.mem_of_getElem? hy
    obtain ⟨g, o, rfl, hc⟩ := hrow.get (slNe (by decide) hl hx)
    have r1 : ∀ {bx : Bx} {hp : List Seg}, RdW ⟨w, kys [] []⟩ bx hp g (o + ((i : Int) - 1).toNat * 6) (i64s x) := fun {_ _} => RdW.rec hl hc (by simp [kys]) hx (by omega)
    have r2 : ∀ {bx : Bx} {hp : List Seg}, RdW ⟨w, kys [] []⟩ bx hp g (o + (i : Int).toNat * 6) (i64s y) := fun {_ _} => RdW.rec hl hc (by simp [kys]) hy (by omega)
    have hfalse := fun h => ris_false (lt := lt1) hx (by rw [show i - 1 + 1 = i by omega]; exact hy) h
    have hnext : lt1 x y = true → ∀ t u v, t + 1 < i + 1 → l[t]? = some u → l[t + 1]? = some v → lt1 u v = true := by
      intro hxy t u v ht hu hv
      by_cases hti : t = i - 1
      · subst hti
        rw [hx] at hu; cases hu
        rw [show i - 1 + 1 = i by omega, hy] at hv; cases hv; exact hxy
      · exact hall t u v (by omega) hu hv
    obtain ⟨x0, x1, x2, x3, x4, x5, rfl⟩ := len6 (hl x hmx)
    obtain ⟨y0, y1, y2, y3, y4, y5, rfl⟩ := len6 (hl y hmy)
    refine At.run 100 true [true] [] rfl (by (repeat' apply And.intro) <;> first | exact True.intro | omega | (simp only [inK]; omega) | (simp; done) | (simp; omega) | exact decide_eq_true (by omega) | exact decide_eq_false (by omega) | rfl | (simp [Value.oneCell']; done) | exact i64s_one _ | exact AggOk.mk (by kernel_rfl) (by kernel_rfl)) ?_
    refine At.quiet true [] [hR [.int .i64 x0, .int .i64 x1, .int .i64 x2, .int .i64 x3, .int .i64 x4, .int .i64 x5], hR [.int .i64 y0, .int .i64 y1, .int .i64 y2, .int .i64 y3, .int .i64 y4, .int .i64 y5], hC (.int .i64 y0), hC (.int .i64 (cmp1 [x0, x1, x2, x3, x4, x5] y0))] ⟨by kernel_rfl, by kernel_rfl, rfl, rfl, rfl⟩ rfl rfl rfl (by (repeat' apply And.intro) <;> first | exact r1 | exact r2 | exact fun w' _ => Tryz.openKey_w .. | exact fun w' _ => Tryz.byOpen_w .. | exact True.intro | omega | rfl | (simp only [inK]; omega) | exact decide_eq_true (by omega) | exact decide_eq_false (by omega) | (simp; done) | (simp; omega) | (simp [Value.oneCell']; done) | exact i64s_one _ | exact AggOk.mk (by kernel_rfl) (by kernel_rfl)) ?_
    by_cases hcmp : cmp1 [x0, x1, x2, x3, x4, x5] y0 < 0
    · have hl2 : lt1 [x0, x1, x2, x3, x4, x5] [y0, y1, y2, y3, y4, y5] = true := decide_eq_true (cmpI_lt.1 hcmp)
      refine At.run 100 true [false] [] rfl (by (repeat' apply And.intro) <;> first | exact decide_eq_false (by omega) | exact True.intro | omega | rfl | (simp only [inK]; omega) | exact decide_eq_true (by omega) | exact decide_eq_false (by omega) | (simp; done) | (simp; omega) | (simp [Value.oneCell']; done) | exact i64s_one _ | exact AggOk.mk (by kernel_rfl) (by kernel_rfl)) ?_
      refine At.weak (ih (l.length - (i + 1)) _ _ _ (by omega) ⟨i + 1, rfl, by omega, by omega, hnext hl2, rfl, rfl, rfl⟩) ⟨rfl, rfl, rfl, some_int_eq (by omega), trivial⟩
    · have hl2 : lt1 [x0, x1, x2, x3, x4, x5] [y0, y1, y2, y3, y4, y5] = false := decide_eq_false (fun h => hcmp (cmpI_lt.2 h))
      refine At.run 100 true [true] [] rfl (by (repeat' apply And.intro) <;> first | exact decide_eq_true (by omega) | exact True.intro | omega | rfl | (simp only [inK]; omega) | exact decide_eq_true (by omega) | exact decide_eq_false (by omega) | (simp; done) | (simp; omega) | (simp [Value.oneCell']; done) | exact i64s_one _ | exact AggOk.mk (by kernel_rfl) (by kernel_rfl)) ?_
      exact At.ret [] rfl Tryz.func96 rfl trivial ⟨by rw [hfalse hl2]; rfl, rfl, rfl⟩
  · refine At.run 100 true [false] [] rfl (by (repeat' apply And.intro) <;> first | exact True.intro | omega | (simp only [inK]; omega) | (simp; done) | (simp; omega) | exact decide_eq_true (by omega) | exact decide_eq_false (by omega) | rfl | (simp [Value.oneCell']; done) | exact i64s_one _ | exact AggOk.mk (by kernel_rfl) (by kernel_rfl)) ?_
    exact At.ret [] rfl Tryz.func96 rfl trivial ⟨by rw [ris_ok hall (by omega)]; rfl, rfl, rfl⟩

theorem Tryz.risingRate_w (l : List (List Int)) (a : Option Addr) (cap : Nat) (w : World) (hl : ∀ x, x ∈ l → x.length = 2) (hlen : l.length ≤ 1048576) (hrow : SlOk w a (l.flatMap i64s)) :
    Fun Tryz.prog 99 [.slice a l.length cap, .func (.func 100) ⟨[]⟩ ⟨[]⟩, .func (.func 101) ⟨[]⟩ ⟨[]⟩] w (.bool (ris lt1 l)) := by
  refine Tri.enter (bx := []) (hp := []) Tryz.func99 rfl (by kernel_rfl) rfl (Own.nil w) ?_
  refine At.run 100 true [] [] rfl trivial ?_
  refine At.loop (n := l.length - 1) (env0 := [(0, .slice a l.length cap), (1, .func (.func 100) ⟨[]⟩ ⟨[]⟩), (2, .func (.func 101) ⟨[]⟩ ⟨[]⟩), (7, .int .i64 1)]) (fun m env bx hp => ∃ i : Nat, m = l.length - i ∧ 1 ≤ i ∧ i ≤ l.length + 1 ∧ (∀ t x y, t + 1 < i → l[t]? = some x → l[t + 1]? = some y → lt1 x y = true) ∧
    env = [(0, .slice a l.length cap), (1, .func (.func 100) ⟨[]⟩ ⟨[]⟩), (2, .func (.func 101) ⟨[]⟩ ⟨[]⟩), (7, .int .i64 i)] ∧ bx = [] ∧ hp = []) rfl ⟨1, rfl, by omega, by omega, fun t x y h => by omega, rfl, rfl, rfl⟩ ⟨rfl, rfl, rfl, rfl, trivial⟩ ?_
  rintro m env bx hp ⟨i, rfl, h1i, hi, hall, rfl, rfl, rfl⟩ ih
  by_cases hlt : i < l.length
  · obtain ⟨x, hx⟩ : ∃ x, l[i - 1]? = some x := ⟨_, List.getElem?_eq_getElem (by omega)⟩
    obtain ⟨y, hy⟩ : ∃ y, l[i]? = some y := ⟨_, List.getElem?_eq_getElem hlt⟩
    have hmx := List.mem_of_getElem? hx
    have hmy := List.mem_of_getElem? hy
    obtain ⟨g, o, rfl, hc⟩ := hrow.get (slNe (by decide) hl hx)
    have r1 : ∀ {bx : Bx} {hp : List Seg}, RdW ⟨w, kys [] []⟩ bx hp g (o + ((i : Int) - 1).toNat * 2) (i64s x) := fun {_ _} => RdW.rec hl hc (by simp [kys]) hx (by omega)
    have r2 : ∀ {bx : Bx} {hp : List Seg}, RdW ⟨w, kys [] []⟩ bx hp g (o + (i : Int).toNat * 2) (i64s y) := fun {_ _} => RdW.rec hl hc (by simp [kys]) hy (by omega)
    have hfalse := fun h => ris_false (lt := lt1) hx (by rw [show i - 1 + 1 = i by omega]; exact hy) h
    have hnext : lt1 x y = true → ∀ t u v, t + 1 < i + 1 → l[t]? = some u → l[t + 1]? = some v → lt1 u v = true := by
      intro hxy t u v ht hu hv
      by_cases hti : t = i - 1
      · subst hti
        rw [hx] at hu; cases hu
        rw [show i - 1 + 1 = i by omega, hy] at hv; cases hv; exact hxy
      · exact hall t u v (by omega) hu hv
    obtain ⟨x0, x1, rfl⟩ := len2 (hl x hmx)
    obtain ⟨y0, y1, rfl⟩ := len2 (hl y hmy)
    refine At.run 100 true [true] [] rfl (by (repeat' apply And.intro) <;> first | exact True.intro | omega | (simp only [inK]; omega) | (simp; done) | (simp; omega) | exact decide_eq_true (by omega) | exact decide_eq_false (by omega) | rfl | (simp [Value.oneCell']; done) | exact i64s_one _ | exact AggOk.mk (by kernel_rfl) (by kernel_rfl)) ?_
    refine At.quiet true [] [hR [.int .i64 x0, .int .i64 x1], hR [.int .i64 y0, .int .i64 y1], hC (.int .i64 y0), hC (.int .i64 (cmp1 [x0, x1] y0))] ⟨by kernel_rfl, by kernel_rfl, rfl, rfl, rfl⟩ rfl rfl rfl (by (repeat' apply And.intro) <;> first | exact r1 | exact r2 | exact fun w' _ => Tryz.rateKey_w .. | exact fun w' _ => Tryz.byRate_w .. | exact True.intro | omega | rfl | (simp only [inK]; omega) | exact decide_eq_true (by omega) | exact decide_eq_false (by omega) | (simp; done) | (simp; omega) | (simp [Value.oneCell']; done) | exact i64s_one _ | exact AggOk.mk (by kernel_rfl) (by kernel_rfl)) ?_
    by_cases hcmp : cmp1 [x0, x1] y0 < 0
    · have hl2 : lt1 [x0, x1] [y0, y1] = true := decide_eq_true (cmpI_lt.1 hcmp)
      refine At.run 100 true [false] [] rfl (by (repeat' apply And.intro) <;> first | exact decide_eq_false (by omega) | exact True.intro | omega | rfl | (simp only [inK]; omega) | exact decide_eq_true (by omega) | exact decide_eq_false (by omega) | (simp; done) | (simp; omega) | (simp [Value.oneCell']; done) | exact i64s_one _ | exact AggOk.mk (by kernel_rfl) (by kernel_rfl)) ?_
      refine At.weak (ih (l.length - (i + 1)) _ _ _ (by omega) ⟨i + 1, rfl, by omega, by omega, hnext hl2, rfl, rfl, rfl⟩) ⟨rfl, rfl, rfl, some_int_eq (by omega), trivial⟩
    · have hl2 : lt1 [x0, x1] [y0, y1] = false := decide_eq_false (fun h => hcmp (cmpI_lt.2 h))
      refine At.run 100 true [true] [] rfl (by (repeat' apply And.intro) <;> first | exact decide_eq_true (by omega) | exact True.intro | omega | rfl | (simp only [inK]; omega) | exact decide_eq_true (by omega) | exact decide_eq_false (by omega) | (simp; done) | (simp; omega) | (simp [Value.oneCell']; done) | exact i64s_one _ | exact AggOk.mk (by kernel_rfl) (by kernel_rfl)) ?_
      exact At.ret [] rfl Tryz.func99 rfl trivial ⟨by rw [hfalse hl2]; rfl, rfl, rfl⟩
  · refine At.run 100 true [false] [] rfl (by (repeat' apply And.intro) <;> first | exact True.intro | omega | (simp only [inK]; omega) | (simp; done) | (simp; omega) | exact decide_eq_true (by omega) | exact decide_eq_false (by omega) | rfl | (simp [Value.oneCell']; done) | exact i64s_one _ | exact AggOk.mk (by kernel_rfl) (by kernel_rfl)) ?_
    exact At.ret [] rfl Tryz.func99 rfl trivial ⟨by rw [ris_ok hall (by omega)]; rfl, rfl, rfl⟩

theorem Tryz.findRate_w (l : List (List Int)) (a : Option Addr) (cap : Nat) (k : Int) (w : World) (hl : ∀ x, x ∈ l → x.length = 2) (hlen : l.length ≤ 1048576) (hrow : SlOk w a (l.flatMap i64s)) (hris : ris lt1 l = true) :
    Fun Tryz.prog 106 [.slice a l.length cap, .int .i64 k, .func (.func 101) ⟨[]⟩ ⟨[]⟩] w (.tuple #[.agg ⟨i64s ((fnd l k).getD [0, 0])⟩, .bool (fnd l k).isSome]) := by
  refine Tri.enter (bx := []) (hp := []) Tryz.func106 rfl (by kernel_rfl) rfl (Own.nil w) ?_
  refine At.run 100 true [] [] rfl trivial ?_
  refine At.step [] rfl rfl rfl rfl rfl trivial (OpOk.alloc (cs := i64s [0, 0]) rfl (by kernel_rfl) fun b1 hb1 => ?_)
  have hfb := @fnd_bs l k hris
  have hs : ∀ {bx : Bx} {hp : List Seg}, CallOb Tryz.prog ⟨w, kys [] []⟩ bx hp 121 [.slice a l.length cap, .int .i64 k, .func (.func 101) ⟨[]⟩ ⟨[]⟩] (.tuple #[.int .i64 (bsI l k), .bool (bsF l k)]) :=
    fun {_ _} w' hw' => Tryz.searchRate_w l a cap k w' hl hlen (hrow.ext hw'.ext (by simp [kys])) hris
  cases hF : bsF l k with
  | false =>
    rw [hF] at hs hfb
    rw [hfb]
    refine At.run 100 true [true] [hC (.tuple #[.int .i64 (bsI l k), .bool false])] rfl (by (repeat' apply And.intro) <;> first | exact hs | exact True.intro | omega | rfl | (simp only [inK]; omega) | exact decide_eq_true (by omega) | exact decide_eq_false (by omega) | (simp; done) | (simp; omega) | (simp [Value.oneCell']; done) | exact i64s_one _ | exact AggOk.mk (by kernel_rfl) (by kernel_rfl)) ?_
    refine At.step [] rfl rfl rfl rfl rfl trivial (OpOk.alloc (cs := i64s [0, 0]) rfl (by kernel_rfl) fun b2 hb2 => ?_)
    refine At.run 100 true [] [hB 0, hB 1] rfl (by (repeat' apply And.intro) <;> first | exact True.intro | omega | (simp only [inK]; omega) | (simp; done) | (simp; omega) | exact decide_eq_true (by omega) | exact decide_eq_false (by omega) | rfl | (simp [Value.oneCell']; done) | exact i64s_one _ | exact AggOk.mk (by kernel_rfl) (by kernel_rfl)) ?_
    exact At.retK [] [] [hB 1] rfl rfl Tryz.func106 rfl (by (repeat' apply And.intro) <;> first | exact True.intro | omega | (simp only [inK]; omega) | (simp; done) | (simp; omega) | exact decide_eq_true (by omega) | exact decide_eq_false (by omega) | rfl | (simp [Value.oneCell']; done) | exact i64s_one _ | exact AggOk.mk (by kernel_rfl) (by kernel_rfl)) ⟨rfl, rfl, rfl⟩
  | true =>
    rw [hF] at hs hfb
    obtain ⟨x, hx⟩ : ∃ x, l[bsI l k]? = some x := by
      unfold bsF at hF
      cases h : l[bsI l k]? with
      | none => rw [h] at hF; cases hF
      | some x => exact ⟨x, rfl⟩
    rw [hfb, hx]
    have hm := List.mem_of_getElem? hx
    obtain ⟨g, o, rfl, hc⟩ := hrow.get (slNe (by decide) hl hx)
    have r1 : ∀ {bx : Bx} {hp : List Seg}, RdW ⟨w, kys [] []⟩ bx hp g (o + ((bsI l k : Nat) : Int).toNat * 2) (i64s x) := fun {_ _} => RdW.rec hl hc (by simp [kys]) hx (by omega)
    have hbl := (List.getElem?_eq_some_iff.1 hx).1
    obtain ⟨x0, x1, rfl⟩ := len2 (hl x hm)
    refine At.run 100 true [false] [hC (.tuple #[.int .i64 (bsI l k), .bool true]), hR [.int .i64 x0, .int .i64 x1], hB 0] rfl (by (repeat' apply And.intro) <;> first | exact hs | exact r1 | exact True.intro | omega | rfl | (simp only [inK]; omega) | exact decide_eq_true (by omega) | exact decide_eq_false (by omega) | (simp; done) | (simp; omega) | (simp [Value.oneCell']; done) | exact i64s_one _ | exact AggOk.mk (by kernel_rfl) (by kernel_rfl)) ?_
    exact At.retK [] [] [hB 0] rfl rfl Tryz.func106 rfl (by (repeat' apply And.intro) <;> first | exact True.intro | omega | (simp only [inK]; omega) | (simp; done) | (simp; omega) | exact decide_eq_true (by omega) | exact decide_eq_false (by omega) | rfl | (simp [Value.oneCell']; done) | exact i64s_one _ | exact AggOk.mk (by kernel_rfl) (by kernel_rfl)) ⟨rfl, rfl, rfl⟩

theorem Tryz.risingStake_w (l : List (List Int)) (a : Option Addr) (cap : Nat) (w : World) (hl : ∀ x, x ∈ l → x.length = 3) (hlen : l.length ≤ 1048576) (hrow : SlOk w a (l.flatMap i64s)) :
    Fun Tryz.prog 102 [.slice a l.length cap, .func (.func 103) ⟨[]⟩ ⟨[]⟩, .func (.func 104) ⟨[]⟩ ⟨[]⟩] w (.bool (ris lt2 l)) := by
  refine Tri.enter (bx := []) (hp := []) Tryz.func102 rfl (by kernel_rfl) rfl (Own.nil w) ?_
  refine At.run 100 true [] [] rfl trivial ?_
  refine At.loop (n := l.length - 1) (env0 := [(0, .slice a l.length cap), (1, .func (.func 103) ⟨[]⟩ ⟨[]⟩), (2, .func (.func 104) ⟨[]⟩ ⟨[]⟩), (7, .int .i64 1)]) (fun m env bx hp => ∃ i : Nat, m = l.length - i ∧ 1 ≤ i ∧ i ≤ l.length + 1 ∧ (∀ t x y, t + 1 < i → l[t]? = some x → l[t + 1]? = some y → lt2 x y = true) ∧
    env = [(0, .slice a l.length cap), (1, .func (.func 103) ⟨[]⟩ ⟨[]⟩), (2, .func (.func 104) ⟨[]⟩ ⟨[]⟩), (7, .int .i64 i)] ∧ bx = [] ∧ hp = []) rfl ⟨1, rfl, by omega, by omega, fun t x y h => by omega, rfl, rfl, rfl⟩ ⟨rfl, rfl, rfl, rfl, trivial⟩ ?_
  rintro m env bx hp ⟨i, rfl, h1i, hi, hall, rfl, rfl, rfl⟩ ih
  by_cases hlt : i < l.length
  · obtain ⟨x, hx⟩ : ∃ x, l[i - 1]? = some x := ⟨_, List.getElem?_eq_getElem (by omega)⟩
    obtain ⟨y, hy⟩ : ∃ y, l[i]? = some y := ⟨_, List.getElem?_eq_getElem hlt⟩
    have hmx := List.mem_of_getElem? hx
    have hmy := List.mem_of_getElem? hy
    obtain ⟨g, o, rfl, hc⟩ := hrow.get (slNe (by decide) hl hx)
    have r1 : ∀ {bx : Bx} {hp : List Seg}, RdW ⟨w, kys [] []⟩ bx hp g (o + ((i : Int) - 1).toNat * 3) (i64s x) := fun {_ _} => RdW.rec hl hc (by simp [kys]) hx (by omega)
    have r2 : ∀ {bx : Bx} {hp : List Seg}, RdW ⟨w, kys [] []⟩ bx hp g (o + (i : Int).toNat * 3) (i64s y) := fun {_ _} => RdW.rec hl hc (by simp [kys]) hy (by omega)
    have hfalse := fun h => ris_false (lt := lt2) hx (by rw [show i - 1 + 1 = i by omega]; exact hy) h
    have hnext : lt2 x y = true → ∀ t u v, t + 1 < i + 1 → l[t]? = some u → l[t + 1]? = some v → lt2 u v = true := by
      intro hxy t u v ht hu hv
      by_cases hti : t = i - 1
      · subst hti
        rw [hx] at hu; cases hu
        rw [show i - 1 + 1 = i by omega, hy] at hv; cases hv; exact hxy
      · exact hall t u v (by omega) hu hv
    obtain ⟨x0, x1, x2, rfl⟩ := len3 (hl x hmx)
    obtain ⟨y0, y1, y2, rfl⟩ := len3 (hl y hmy)
    refine At.run 100 true [true] [] rfl (by (repeat' apply And.intro) <;> first | exact True.intro | omega | (simp only [inK]; omega) | (simp; done) | (simp; omega) | exact decide_eq_true (by omega) | exact decide_eq_false (by omega) | rfl | (simp [Value.oneCell']; done) | exact i64s_one _ | exact AggOk.mk (by kernel_rfl) (by kernel_rfl)) ?_
    refine At.quiet true [] [hR [.int .i64 x0, .int .i64 x1, .int .i64 x2], hR [.int .i64 y0, .int .i64 y1, .int .i64 y2], hC (.agg ⟨[.int .i64 y0, .int .i64 y1]⟩), hC (.int .i64 (cmp2 [x0, x1, x2] y0 y1))] ⟨by kernel_rfl, by kernel_rfl, rfl, rfl, rfl⟩ rfl rfl rfl (by (repeat' apply And.intro) <;> first | exact r1 | exact r2 | exact fun w' _ => Tryz.stakeKey_w .. | exact fun w' _ => Tryz.byStake_w .. | exact True.intro | omega | rfl | (simp only [inK]; omega) | exact decide_eq_true (by omega) | exact decide_eq_false (by omega) | (simp; done) | (simp; omega) | (simp [Value.oneCell']; done) | exact i64s_one _ | exact AggOk.mk (by kernel_rfl) (by kernel_rfl)) ?_
    by_cases hcmp : cmp2 [x0, x1, x2] y0 y1 < 0
    · have hl2 : lt2 [x0, x1, x2] [y0, y1, y2] = true := decide_eq_true (cmp2_lt.1 hcmp)
      refine At.run 100 true [false] [] rfl (by (repeat' apply And.intro) <;> first | exact decide_eq_false (by omega) | exact True.intro | omega | rfl | (simp only [inK]; omega) | exact decide_eq_true (by omega) | exact decide_eq_false (by omega) | (simp; done) | (simp; omega) | (simp [Value.oneCell']; done) | exact i64s_one _ | exact AggOk.mk (by kernel_rfl) (by kernel_rfl)) ?_
      refine At.weak (ih (l.length - (i + 1)) _ _ _ (by omega) ⟨i + 1, rfl, by omega, by omega, hnext hl2, rfl, rfl, rfl⟩) ⟨rfl, rfl, rfl, some_int_eq (by omega), trivial⟩
    · have hl2 : lt2 [x0, x1, x2] [y0, y1, y2] = false := decide_eq_false (fun h => hcmp (cmp2_lt.2 h))
      refine At.run 100 true [true] [] rfl (by (repeat' apply And.intro) <;> first | exact decide_eq_true (by omega) | exact True.intro | omega | rfl | (simp only [inK]; omega) | exact decide_eq_true (by omega) | exact decide_eq_false (by omega) | (simp; done) | (simp; omega) | (simp [Value.oneCell']; done) | exact i64s_one _ | exact AggOk.mk (by kernel_rfl) (by kernel_rfl)) ?_
      exact At.ret [] rfl Tryz.func102 rfl trivial ⟨by rw [hfalse hl2]; rfl, rfl, rfl⟩
  · refine At.run 100 true [false] [] rfl (by (repeat' apply And.intro) <;> first | exact True.intro | omega | (simp only [inK]; omega) | (simp; done) | (simp; omega) | exact decide_eq_true (by omega) | exact decide_eq_false (by omega) | rfl | (simp [Value.oneCell']; done) | exact i64s_one _ | exact AggOk.mk (by kernel_rfl) (by kernel_rfl)) ?_
    exact At.ret [] rfl Tryz.func102 rfl trivial ⟨by rw [ris_ok hall (by omega)]; rfl, rfl, rfl⟩

end Go.Proofs

/-
  Walks of layer 12: the reference's books.
-/
import Derived.Test.YtfpoclhenokhhaaGreatW23
namespace Go.Proofs
open Go Go.Eng
set_option maxRecDepth 100000
set_option maxHeartbeats 4000000
attribute [local irreducible] Tri

theorem RdW.at {S : Base} {bx : Bx} {hp : List Seg} {g off : Nat} {cs : List Value} {u : Value} (h : RdW S bx hp g off cs) (j : Nat) (hu : cs[j]? = some u) : RdW S bx hp g (off + j) [u] := fun w hw k v hv => by
  match k, hv with
  | 0, hv => simp at hv; subst hv; exact h w hw j _ hu
theorem At.cutB {ι : Type} {C : Ctx} {x : Eng.Loc} {df : List Deferred} {env : Env} {bx : Bx} {hp : List Seg} {S : Base} (y : Eng.Loc) (e : ι → Env) (b : ι → Bx)
    (hs : ∀ i, At C y df (e i) (b i) hp S) (hk : (∀ i, At C y df (e i) (b i) hp S) → At C x df env bx hp S) : At C x df env bx hp S := hk hs
theorem AtD.fork3 {C : Ctx} {p : List Nat} {df : List Deferred} {fuel : Nat} {listed : Array Bool} {env : Env} {bx : Bx} {hp : List Seg} {S : Base} (i j k : Nat) (hr : Region.ready .any (opsOf C.body p) listed = [i, j, k])
    (h1 : StepD C p df fuel listed env bx hp S i) (h2 : StepD C p df fuel listed env bx hp S j) (h3 : StepD C p df fuel listed env bx hp S k) : AtD C p df (fuel + 1) listed env bx hp S :=
  AtD.fork [i, j, k] hr (by simp) (fun l hl => by simp at hl; rcases hl with rfl | rfl | rfl <;> assumption)

theorem Tryz.rRise_w (b : Bk) (A : BkA) (w : World) (hi : BkIn b) (ho : BkOk w b A) : Fun Tryz.prog 24 [.agg ⟨bkV b A⟩] w (.bool (ris lt1 b.H && (ris lt1 b.O && (ris lt1 b.R && ris lt2 b.S)))) := by
  refine Tri.enter (bx := []) (hp := []) Tryz.func24 rfl (by kernel_rfl) rfl (Own.nil w) ?_
  obtain ⟨a1, a2, a3, a4, c1, c2, c3, c4⟩ := A
  have h1 : SlOk w a1 (b.H.flatMap i64s) := ho.h1
  have h2 : SlOk w a2 (b.S.flatMap i64s) := ho.h2
  have h3 : SlOk w a3 (b.O.flatMap i64s) := ho.h3
  have h4 : SlOk w a4 (b.R.flatMap i64s) := ho.h4
  have l1 := hi.l1
  have l2 := hi.l2
  have l3 := hi.l3
  have l4 := hi.l4
  refine At.run 100 true [] [] rfl trivial ?_
  refine At.step [] rfl rfl rfl rfl rfl trivial (OpOk.box rfl rfl rfl fun bq hbq => ?_)
  refine At.run 100 true [] [] rfl trivial ?_
  refine At.loop (n := b.H.length - 1) (env0 := [(1, .pointer (some ⟨bq, 0, none⟩)), (3, .int .i64 1)]) (fun m env bx hp => ∃ i : Nat, m = b.H.length - i ∧ 1 ≤ i ∧ i ≤ b.H.length + 1 ∧ (∀ t x y, t + 1 < i → b.H[t]? = some x → b.H[t + 1]? = some y → lt1 x y = true) ∧
    env = [(1, .pointer (some ⟨bq, 0, none⟩)), (3, .int .i64 i)] ∧ bx = [(bq, 27, bkV b ⟨a1, a2, a3, a4, c1, c2, c3, c4⟩)] ∧ hp = []) rfl ⟨1, rfl, by omega, by omega, fun t x y h => by omega, rfl, rfl, rfl⟩ ⟨rfl, rfl, trivial⟩ ?_
  rintro m env bx hp ⟨i, rfl, h1i, hi2, hall, rfl, rfl, rfl⟩ ih
  by_cases hlt : i < b.H.length
  · obtain ⟨x, hx⟩ : ∃ x, b.H[i - 1]? = some x := ⟨_, List.getElem?_eq_getElem (by omega)⟩
    obtain ⟨y, hy⟩ : ∃ y, b.H[i]? = some y := ⟨_, List.getElem?_eq_getElem hlt⟩
    have hmx := List.mem_of_getElem? hx
    have hmy := List.mem_of_getElem? hy
    obtain ⟨g, o, rfl, hc⟩ := h1.get (slNe (by decide) hi.r1.len hx)
    have r1 : ∀ {bx : Bx} {hp : List Seg}, RdW ⟨w, kys [] []⟩ bx hp g (o + ((i : Int) - 1).toNat * 4) (i64s x) := fun {_ _} => RdW.rec hi.r1.len hc (by simp [kys]) hx (by omega)
    have r2 : ∀ {bx : Bx} {hp : List Seg}, RdW ⟨w, kys [] []⟩ bx hp g (o + (i : Int).toNat * 4) (i64s y) := fun {_ _} => RdW.rec hi.r1.len hc (by simp [kys]) hy (by omega)
    have hfalse := fun h => ris_false (lt := lt1) hx (by rw [show i - 1 + 1 = i by omega]; exact hy) h
    have hnext : lt1 x y = true → ∀ t u v, t + 1 < i + 1 → b.H[t]? = some u → b.H[t + 1]? = some v → lt1 u v = true := by
      intro hxy t u v ht hu hv
      by_cases hti : t = i - 1
      · subst hti
        rw [hx] at hu; cases hu
        rw [show i - 1 + 1 = i by omega, hy] at hv; cases hv; exact hxy
      · exact hall t u v (by omega) hu hv
    obtain ⟨x0, x1, x2, x3, rfl⟩ := len4 (hi.r1.len x hmx)
    obtain ⟨y0, y1, y2, y3, rfl⟩ := len4 (hi.r1.len y hmy)
    refine At.run 100 true [true] [hB 0] rfl (by (repeat' apply And.intro) <;> first | exact True.intro | omega | (simp only [inK]; omega) | (simp; done) | (simp; omega) | exact decide_eq_true (by omega) | exact decide_eq_false (by omega) | rfl | (simp [Value.oneCell']; done) | exact i64s_one _ | exact AggOk.mk (by kernel_rfl) (by kernel_rfl)) ?_
    refine At.quiet true [] [hB 0, hR [.int .i64 x0], hB 0, hR [.int .i64 y0]] ⟨by kernel_rfl, by kernel_rfl, rfl, rfl, rfl⟩ rfl rfl rfl (by (repeat' apply And.intro) <;> first | exact RdW.at r1 0 rfl | exact RdW.at r2 0 rfl | exact True.intro | omega | rfl | (simp only [inK]; omega) | exact decide_eq_true (by omega) | exact decide_eq_false (by omega) | (simp; done) | (simp; omega) | (simp [Value.oneCell']; done) | exact i64s_one _ | exact AggOk.mk (by kernel_rfl) (by kernel_rfl)) ?_
    by_cases hcmp : x0 < y0
    · have hl2 : lt1 [x0, x1, x2, x3] [y0, y1, y2, y3] = true := decide_eq_true hcmp
      refine At.run 100 true [false] [] rfl (by (repeat' apply And.intro) <;> first | exact decide_eq_false (by omega) | exact True.intro | omega | rfl | (simp only [inK]; omega) | exact decide_eq_true (by omega) | exact decide_eq_false (by omega) | (simp; done) | (simp; omega) | (simp [Value.oneCell']; done) | exact i64s_one _ | exact AggOk.mk (by kernel_rfl) (by kernel_rfl)) ?_
      refine At.weak (ih (b.H.length - (i + 1)) _ _ _ (by omega) ⟨i + 1, rfl, by omega, by omega, hnext hl2, rfl, rfl, rfl⟩) ⟨rfl, some_int_eq (by omega), trivial⟩
    · have hl2 : lt1 [x0, x1, x2, x3] [y0, y1, y2, y3] = false := decide_eq_false hcmp
      refine At.run 100 true [true] [] rfl (by (repeat' apply And.intro) <;> first | exact decide_eq_true (by omega) | exact True.intro | omega | rfl | (simp only [inK]; omega) | exact decide_eq_true (by omega) | exact decide_eq_false (by omega) | (simp; done) | (simp; omega) | (simp [Value.oneCell']; done) | exact i64s_one _ | exact AggOk.mk (by kernel_rfl) (by kernel_rfl)) ?_
      exact At.retK [] [] [] rfl rfl Tryz.func24 rfl trivial ⟨by rw [hfalse hl2]; simp [tupV], rfl, rfl⟩
  · refine At.run 100 true [false] [hB 0] rfl (by (repeat' apply And.intro) <;> first | exact True.intro | omega | (simp only [inK]; omega) | (simp; done) | (simp; omega) | exact decide_eq_true (by omega) | exact decide_eq_false (by omega) | rfl | (simp [Value.oneCell']; done) | exact i64s_one _ | exact AggOk.mk (by kernel_rfl) (by kernel_rfl)) ?_
    have hrH := ris_ok hall (by omega)
    clear ih hall
    refine At.loop (n := b.O.length - 1) (env0 := [(1, .pointer (some ⟨bq, 0, none⟩)), (4, .int .i64 1)]) (fun m env bx hp => ∃ i : Nat, m = b.O.length - i ∧ 1 ≤ i ∧ i ≤ b.O.length + 1 ∧ (∀ t x y, t + 1 < i → b.O[t]? = some x → b.O[t + 1]? = some y → lt1 x y = true) ∧
      env = [(1, .pointer (some ⟨bq, 0, none⟩)), (4, .int .i64 i)] ∧ bx = [(bq, 27, bkV b ⟨a1, a2, a3, a4, c1, c2, c3, c4⟩)] ∧ hp = []) rfl ⟨1, rfl, by omega, by omega, fun t x y h => by omega, rfl, rfl, rfl⟩ ⟨rfl, rfl, trivial⟩ ?_
    rintro m env bx hp ⟨i, rfl, h1i, hi2, hall, rfl, rfl, rfl⟩ ih
    by_cases hlt : i < b.O.length
    · obtain ⟨x, hx⟩ : ∃ x, b.O[i - 1]? = some x := ⟨_, List.getElem?_eq_getElem (by omega)⟩
      obtain ⟨y, hy⟩ : ∃ y, b.O[i]? = some y := ⟨_, List.getElem?_eq_getElem hlt⟩
      have hmx := List.mem_of_getElem? hx
      have hmy := List.mem_of_getElem? hy
      obtain ⟨g, o, rfl, hc⟩ := h3.get (slNe (by decide) hi.r3.len hx)
      have r1 : ∀ {bx : Bx} {hp : List Seg}, RdW ⟨w, kys [] []⟩ bx hp g (o + ((i : Int) - 1).toNat * 6) (i64s x) := fun {_ _} => RdW.rec hi.r3.len hc (by simp [kys]) hx (by omega)
      have r2 : ∀ {bx : Bx} {hp : List Seg}, RdW ⟨w, kys [] []⟩ bx hp g (o + (i : Int).toNat * 6) (i64s y) := fun {_ _} => RdW.rec hi.r3.len hc (by simp [kys]) hy (by omega)
      have hfalse := fun h => ris_false (lt := lt1) hx (by rw [show i - 1 + 1 = i by omega]; exact hy) h
      have hnext : lt1 x y = true → ∀ t u v, t + 1 < i + 1 → b.O[t]? = some u → b.O[t + 1]? = some v → lt1 u v = true := by
        intro hxy t u v ht hu hv
        by_cases hti : t = i - 1
        · subst hti
          rw [hx] at hu; cases hu
          rw [show i - 1 + 1 = i by omega, hy] at hv; cases hv; exact hxy
        · exact hall t u v (by omega) hu hv
      obtain ⟨x0, x1, x2, x3, x4, x5, rfl⟩ := len6 (hi.r3.len x hmx)
      obtain ⟨y0, y1, y2, y3, y4, y5, rfl⟩ := len6 (hi.r3.len y hmy)
      refine At.run 100 true [true] [hB 0] rfl (by (repeat' apply And.intro) <;> first | exact True.intro | omega | (simp only [inK]; omega) | (simp; done) | (simp; omega) | exact decide_eq_true (by omega) | exact decide_eq_false (by omega) | rfl | (simp [Value.oneCell']; done) | exact i64s_one _ | exact AggOk.mk (by kernel_rfl) (by kernel_rfl)) ?_
      refine At.quiet true [] [hB 0, hR [.int .i64 x0], hB 0, hR [.int .i64 y0]] ⟨by kernel_rfl, by kernel_rfl, rfl, rfl, rfl⟩ rfl rfl rfl (by (repeat' apply And.intro) <;> first | exact RdW.at r1 0 rfl | exact RdW.at r2 0 rfl | exact True.intro | omega | rfl | (simp only [inK]; omega) | exact decide_eq_true (by omega) | exact decide_eq_false (by omega) | (simp; done) | (simp; omega) | (simp [Value.oneCell']; done) | exact i64s_one _ | exact AggOk.mk (by kernel_rfl) (by kernel_rfl)) ?_
      by_cases hcmp : x0 < y0
      · have hl2 : lt1 [x0, x1, x2, x3, x4, x5] [y0, y1, y2, y3, y4, y5] = true := decide_eq_true hcmp
        refine At.run 100 true [false] [] rfl (by (repeat' apply And.intro) <;> first | exact decide_eq_false (by omega) | exact True.intro | omega | rfl | (simp only [inK]; omega) | exact decide_eq_true (by omega) | exact decide_eq_false (by omega) | (simp; done) | (simp; omega) | (simp [Value.oneCell']; done) | exact i64s_one _ | exact AggOk.mk (by kernel_rfl) (by kernel_rfl)) ?_
        refine At.weak (ih (b.O.length - (i + 1)) _ _ _ (by omega) ⟨i + 1, rfl, by omega, by omega, hnext hl2, rfl, rfl, rfl⟩) ⟨rfl, some_int_eq (by omega), trivial⟩
      · have hl2 : lt1 [x0, x1, x2, x3, x4, x5] [y0, y1, y2, y3, y4, y5] = false := decide_eq_false hcmp
        refine At.run 100 true [true] [] rfl (by (repeat' apply And.intro) <;> first | exact decide_eq_true (by omega) | exact True.intro | omega | rfl | (simp only [inK]; omega) | exact decide_eq_true (by omega) | exact decide_eq_false (by omega) | (simp; done) | (simp; omega) | (simp [Value.oneCell']; done) | exact i64s_one _ | exact AggOk.mk (by kernel_rfl) (by kernel_rfl)) ?_
        exact At.retK [] [] [] rfl rfl Tryz.func24 rfl trivial ⟨by rw [hfalse hl2]; simp [tupV], rfl, rfl⟩
    · refine At.run 100 true [false] [hB 0] rfl (by (repeat' apply And.intro) <;> first | exact True.intro | omega | (simp only [inK]; omega) | (simp; done) | (simp; omega) | exact decide_eq_true (by omega) | exact decide_eq_false (by omega) | rfl | (simp [Value.oneCell']; done) | exact i64s_one _ | exact AggOk.mk (by kernel_rfl) (by kernel_rfl)) ?_
      have hrO := ris_ok hall (by omega)
      clear ih hall
      refine At.loop (n := b.R.length - 1) (env0 := [(1, .pointer (some ⟨bq, 0, none⟩)), (5, .int .i64 1)]) (fun m env bx hp => ∃ i : Nat, m = b.R.length - i ∧ 1 ≤ i ∧ i ≤ b.R.length + 1 ∧ (∀ t x y, t + 1 < i → b.R[t]? = some x → b.R[t + 1]? = some y → lt1 x y = true) ∧
        env = [(1, .pointer (some ⟨bq, 0, none⟩)), (5, .int .i64 i)] ∧ bx = [(bq, 27, bkV b ⟨a1, a2, a3, a4, c1, c2, c3, c4⟩)] ∧ hp = []) rfl ⟨1, rfl, by omega, by omega, fun t x y h => by omega, rfl, rfl, rfl⟩ ⟨rfl, rfl, trivial⟩ ?_
      rintro m env bx hp ⟨i, rfl, h1i, hi2, hall, rfl, rfl, rfl⟩ ih
      by_cases hlt : i < b.R.length
      · obtain ⟨x, hx⟩ : ∃ x, b.R[i - 1]? = some x := ⟨_, List.getElem?_eq_getElem (by omega)⟩
        obtain ⟨y, hy⟩ : ∃ y, b.R[i]? = some y := ⟨_, List.getElem?_eq_getElem hlt⟩
        have hmx := List.mem_of_getElem? hx
        have hmy := List.mem_of_getElem? hy
        obtain ⟨g, o, rfl, hc⟩ := h4.get (slNe (by decide) hi.r4.len hx)
        have r1 : ∀ {bx : Bx} {hp : List Seg}, RdW ⟨w, kys [] []⟩ bx hp g (o + ((i : Int) - 1).toNat * 2) (i64s x) := fun {_ _} => RdW.rec hi.r4.len hc (by simp [kys]) hx (by omega)
        have r2 : ∀ {bx : Bx} {hp : List Seg}, RdW ⟨w, kys [] []⟩ bx hp g (o + (i : Int).toNat * 2) (i64s y) := fun {_ _} => RdW.rec hi.r4.len hc (by simp [kys]) hy (by omega)
        have hfalse := fun h => ris_false (lt := lt1) hx (by rw [show i - 1 + 1 = i by omega]; exact hy) h
        have hnext : lt1 x y = true → ∀ t u v, t + 1 < i + 1 → b.R[t]? = some u → b.R[t + 1]? = some v → lt1 u v = true := by
          intro hxy t u v ht hu hv
          by_cases hti : t = i - 1
          · subst hti
            rw [hx] at hu; cases hu
            rw [show i - 1 + 1 = i by omega, hy] at hv; cases hv; exact hxy
          · exact hall t u v (by omega) hu hv
        obtain ⟨x0, x1, rfl⟩ := len2 (hi.r4.len x hmx)
        obtain ⟨y0, y1, rfl⟩ := len2 (hi.r4.len y hmy)
        refine At.run 100 true [true] [hB 0] rfl (by (repeat' apply And.intro) <;> first | exact True.intro | omega | (simp only [inK]; omega) | (simp; done) | (simp; omega) | exact decide_eq_true (by omega) | exact decide_eq_false (by omega) | rfl | (simp [Value.oneCell']; done) | exact i64s_one _ | exact AggOk.mk (by kernel_rfl) (by kernel_rfl)) ?_
        refine At.quiet true [] [hB 0, hR [.int .i64 x0], hB 0, hR [.int .i64 y0]] ⟨by kernel_rfl, by kernel_rfl, rfl, rfl, rfl⟩ rfl rfl rfl (by (repeat' apply And.intro) <;> first | exact RdW.at r1 0 rfl | exact RdW.at r2 0 rfl | exact True.intro | omega | rfl | (simp only [inK]; omega) | exact decide_eq_true (by omega) | exact decide_eq_false (by omega) | (simp; done) | (simp; omega) | (simp [Value.oneCell']; done) | exact i64s_one _ | exact AggOk.mk (by kernel_rfl) (by kernel_rfl)) ?_
        by_cases hcmp : x0 < y0
        · have hl2 : lt1 [x0, x1] [y0, y1] = true := decide_eq_true hcmp
          refine At.run 100 true [false] [] rfl (by (repeat' apply And.intro) <;> first | exact decide_eq_false (by omega) | exact True.intro | omega | rfl | (simp only [inK]; omega) | exact decide_eq_true (by omega) | exact decide_eq_false (by omega) | (simp; done) | (simp; omega) | (simp [Value.oneCell']; done) | exact i64s_one _ | exact AggOk.mk (by kernel_rfl) (by kernel_rfl)) ?_
          refine At.weak (ih (b.R.length - (i + 1)) _ _ _ (by omega) ⟨i + 1, rfl, by omega, by omega, hnext hl2, rfl, rfl, rfl⟩) ⟨rfl, some_int_eq (by omega), trivial⟩
        · have hl2 : lt1 [x0, x1] [y0, y1] = false := decide_eq_false hcmp
          refine At.run 100 true [true] [] rfl (by (repeat' apply And.intro) <;> first | exact decide_eq_true (by omega) | exact True.intro | omega | rfl | (simp only [inK]; omega) | exact decide_eq_true (by omega) | exact decide_eq_false (by omega) | (simp; done) | (simp; omega) | (simp [Value.oneCell']; done) | exact i64s_one _ | exact AggOk.mk (by kernel_rfl) (by kernel_rfl)) ?_
          exact At.retK [] [] [] rfl rfl Tryz.func24 rfl trivial ⟨by rw [hfalse hl2]; simp [tupV], rfl, rfl⟩
      · refine At.run 100 true [false] [hB 0] rfl (by (repeat' apply And.intro) <;> first | exact True.intro | omega | (simp only [inK]; omega) | (simp; done) | (simp; omega) | exact decide_eq_true (by omega) | exact decide_eq_false (by omega) | rfl | (simp [Value.oneCell']; done) | exact i64s_one _ | exact AggOk.mk (by kernel_rfl) (by kernel_rfl)) ?_
        have hrR := ris_ok hall (by omega)
        clear ih hall
        refine At.loop (n := b.S.length - 1) (env0 := [(1, .pointer (some ⟨bq, 0, none⟩)), (6, .int .i64 1)]) (fun m env bx hp => ∃ i : Nat, m = b.S.length - i ∧ 1 ≤ i ∧ i ≤ b.S.length + 1 ∧ (∀ t x y, t + 1 < i → b.S[t]? = some x → b.S[t + 1]? = some y → lt2 x y = true) ∧
          env = [(1, .pointer (some ⟨bq, 0, none⟩)), (6, .int .i64 i)] ∧ bx = [(bq, 27, bkV b ⟨a1, a2, a3, a4, c1, c2, c3, c4⟩)] ∧ hp = []) rfl ⟨1, rfl, by omega, by omega, fun t x y h => by omega, rfl, rfl, rfl⟩ ⟨rfl, rfl, trivial⟩ ?_
        rintro m env bx hp ⟨i, rfl, h1i, hi2, hall, rfl, rfl, rfl⟩ ih
        by_cases hlt : i < b.S.length
        · obtain ⟨x, hx⟩ : ∃ x, b.S[i - 1]? = some x := ⟨_, List.getElem?_eq_getElem (by omega)⟩
          obtain ⟨y, hy⟩ : ∃ y, b.S[i]? = some y := ⟨_, List.getElem?_eq_getElem hlt⟩
          have hmx := List.mem_of_getElem? hx
          have hmy := List.mem_of_getElem? hy
          obtain ⟨g, o, rfl, hc⟩ := h2.get (slNe (by decide) hi.r2.len hx)
          have r1 : ∀ {bx : Bx} {hp : List Seg}, RdW ⟨w, kys [] []⟩ bx hp g (o + ((i : Int) - 1).toNat * 3) (i64s x) := fun {_ _} => RdW.rec hi.r2.len hc (by simp [kys]) hx (by omega)
          have r2 : ∀ {bx : Bx} {hp : List Seg}, RdW ⟨w, kys [] []⟩ bx hp g (o + (i : Int).toNat * 3) (i64s y) := fun {_ _} => RdW.rec hi.r2.len hc (by simp [kys]) hy (by omega)
          have hfalse := fun h => ris_false (lt := lt2) hx (by rw [show i - 1 + 1 = i by omega]; exact hy) h
          have hnext : lt2 x y = true → ∀ t u v, t + 1 < i + 1 → b.S[t]? = some u → b.S[t + 1]? = some v → lt2 u v = true := by
            intro hxy t u v ht hu hv
            by_cases hti : t = i - 1
            · subst hti
              rw [hx] at hu; cases hu
              rw [show i - 1 + 1 = i by omega, hy] at hv; cases hv; exact hxy
            · exact hall t u v (by omega) hu hv
          obtain ⟨x0, x1, x2, rfl⟩ := len3 (hi.r2.len x hmx)
          obtain ⟨y0, y1, y2, rfl⟩ := len3 (hi.r2.len y hmy)
          refine At.run 100 true [true] [hB 0] rfl (by (repeat' apply And.intro) <;> first | exact True.intro | omega | (simp only [inK]; omega) | (simp; done) | (simp; omega) | exact decide_eq_true (by omega) | exact decide_eq_false (by omega) | rfl | (simp [Value.oneCell']; done) | exact i64s_one _ | exact AggOk.mk (by kernel_rfl) (by kernel_rfl)) ?_
          refine At.cutB (ι := Nat × Nat) ⟨1, [0, 0, 0, 1, 0, 0, 1, 0, 1, 1, 1, 1], []⟩ (fun ⟨b7, b8⟩ => [(1, .pointer (some ⟨bq, 0, none⟩)), (6, .int .i64 i), (7, .pointer (some ⟨b7, 0, none⟩)), (8, .pointer (some ⟨b8, 0, none⟩))]) (fun ⟨b7, b8⟩ => [(b7, 51, [.int .i64 x0, .int .i64 x1, .int .i64 x2]), (b8, 51, [.int .i64 y0, .int .i64 y1, .int .i64 y2]), (bq, 27, bkV b ⟨a1, some ⟨g, o, none⟩, a3, a4, c1, c2, c3, c4⟩)]) ?_ (fun hs => ?_)
          · rintro ⟨b7, b8⟩
            by_cases g1 : y0 < x0
            · have hl2 : lt2 [x0, x1, x2] [y0, y1, y2] = false := decide_eq_false (by show ¬ (x0 < y0 ∨ x0 = y0 ∧ x1 < y1); omega)
              refine At.run 100 true [true, true] [hB 0, hB 1] rfl (by (repeat' apply And.intro) <;> first | exact True.intro | omega | (simp only [inK]; omega) | (simp; done) | (simp; omega) | exact decide_eq_true (by omega) | exact decide_eq_false (by omega) | rfl | (simp [Value.oneCell']; done) | exact i64s_one _ | exact AggOk.mk (by kernel_rfl) (by kernel_rfl)) ?_
              exact At.retK [] [] [] rfl rfl Tryz.func24 rfl trivial ⟨by rw [hfalse hl2]; simp [tupV], rfl, rfl⟩
            · by_cases g2 : x0 = y0
              · by_cases g3 : y1 ≤ x1
                · have hl2 : lt2 [x0, x1, x2] [y0, y1, y2] = false := decide_eq_false (by show ¬ (x0 < y0 ∨ x0 = y0 ∧ x1 < y1); omega)
                  refine At.run 100 true [false, true, true] [hB 0, hB 1, hB 0, hB 1, hB 0, hB 1] rfl (by (repeat' apply And.intro) <;> first | exact True.intro | omega | (simp only [inK]; omega) | (simp; done) | (simp; omega) | exact decide_eq_true (by omega) | exact decide_eq_false (by omega) | rfl | (simp [Value.oneCell']; done) | exact i64s_one _ | exact AggOk.mk (by kernel_rfl) (by kernel_rfl)) ?_
                  exact At.retK [] [] [] rfl rfl Tryz.func24 rfl trivial ⟨by rw [hfalse hl2]; simp [tupV], rfl, rfl⟩
                · have hl2 : lt2 [x0, x1, x2] [y0, y1, y2] = true := decide_eq_true (by show x0 < y0 ∨ x0 = y0 ∧ x1 < y1; omega)
                  refine At.run 100 true [false, true, false] [hB 0, hB 1, hB 0, hB 1, hB 0, hB 1] rfl (by (repeat' apply And.intro) <;> first | exact True.intro | omega | (simp only [inK]; omega) | (simp; done) | (simp; omega) | exact decide_eq_true (by omega) | exact decide_eq_false (by omega) | rfl | (simp [Value.oneCell']; done) | exact i64s_one _ | exact AggOk.mk (by kernel_rfl) (by kernel_rfl)) ?_
                  refine At.keep [false, false, true] [] rfl ?_
                  refine At.weak (ih (b.S.length - (i + 1)) _ _ _ (by omega) ⟨i + 1, rfl, by omega, by omega, hnext hl2, rfl, rfl, rfl⟩) ⟨rfl, some_int_eq (by omega), trivial⟩
              · have hl2 : lt2 [x0, x1, x2] [y0, y1, y2] = true := decide_eq_true (by show x0 < y0 ∨ x0 = y0 ∧ x1 < y1; omega)
                refine At.run 100 true [false, false, false] [hB 0, hB 1, hB 0, hB 1] rfl (by (repeat' apply And.intro) <;> first | exact True.intro | omega | (simp only [inK]; omega) | (simp; done) | (simp; omega) | exact decide_eq_true (by omega) | exact decide_eq_false (by omega) | rfl | (simp [Value.oneCell']; done) | exact i64s_one _ | exact AggOk.mk (by kernel_rfl) (by kernel_rfl)) ?_
                refine At.keep [false, false, true] [] rfl ?_
                refine At.weak (ih (b.S.length - (i + 1)) _ _ _ (by omega) ⟨i + 1, rfl, by omega, by omega, hnext hl2, rfl, rfl, rfl⟩) ⟨rfl, some_int_eq (by omega), trivial⟩
          refine At.draw 15 rfl rfl rfl rfl ?_
          refine AtD.cut (ι := Nat × Nat) 0 #[true, true, true, true, true, true, true, true, true, true, true, true, true, true, true] (fun ⟨b7, b8⟩ => [(1, .pointer (some ⟨bq, 0, none⟩)), (6, .int .i64 i), (79, .pointer (some ⟨bq, 1, none⟩)), (80, .slice (some ⟨g, o, none⟩) b.S.length c2), (81, .int .i64 i), (82, .int .i64 ((i : Int) - 1)), (83, .pointer (some ⟨g, o + ((i : Int) - 1).toNat * 3, none⟩)), (84, .agg ⟨[.int .i64 x0, .int .i64 x1, .int .i64 x2]⟩), (85, .pointer (some ⟨bq, 1, none⟩)), (86, .slice (some ⟨g, o, none⟩) b.S.length c2), (87, .int .i64 i), (88, .pointer (some ⟨g, o + (i : Int).toNat * 3, none⟩)), (89, .agg ⟨[.int .i64 y0, .int .i64 y1, .int .i64 y2]⟩), (7, .pointer (some ⟨b7, 0, none⟩)), (8, .pointer (some ⟨b8, 0, none⟩))]) (fun ⟨b7, b8⟩ => [(b7, 51, [.int .i64 x0, .int .i64 x1, .int .i64 x2]), (b8, 51, [.int .i64 y0, .int .i64 y1, .int .i64 y2]), (bq, 27, bkV b ⟨a1, some ⟨g, o, none⟩, a3, a4, c1, c2, c3, c4⟩)]) ?_ (fun hd8 => ?_)
          · rintro ⟨b7, b8⟩
            refine AtD.done (by kernel_rfl) ?_
            exact At.weak (hs (b7, b8)) ⟨rfl, rfl, rfl, rfl, trivial⟩
          refine AtD.cut (ι := Nat × Nat) 1 #[true, true, true, true, true, true, true, true, true, true, true, true, true, true, false] (fun ⟨b7, b8⟩ => [(1, .pointer (some ⟨bq, 0, none⟩)), (6, .int .i64 i), (79, .pointer (some ⟨bq, 1, none⟩)), (80, .slice (some ⟨g, o, none⟩) b.S.length c2), (81, .int .i64 i), (82, .int .i64 ((i : Int) - 1)), (83, .pointer (some ⟨g, o + ((i : Int) - 1).toNat * 3, none⟩)), (84, .agg ⟨[.int .i64 x0, .int .i64 x1, .int .i64 x2]⟩), (85, .pointer (some ⟨bq, 1, none⟩)), (86, .slice (some ⟨g, o, none⟩) b.S.length c2), (87, .int .i64 i), (88, .pointer (some ⟨g, o + (i : Int).toNat * 3, none⟩)), (89, .agg ⟨[.int .i64 y0, .int .i64 y1, .int .i64 y2]⟩), (7, .pointer (some ⟨b7, 0, none⟩)), (8, .pointer (some ⟨b8, 0, none⟩))]) (fun ⟨b7, b8⟩ => [(b7, 51, [.int .i64 x0, .int .i64 x1, .int .i64 x2]), (b8, 51, i64s [0, 0, 0]), (bq, 27, bkV b ⟨a1, some ⟨g, o, none⟩, a3, a4, c1, c2, c3, c4⟩)]) ?_ (fun hd7 => ?_)
          · rintro ⟨b7, b8⟩
            refine AtD.fork1 14 (by kernel_rfl) ?_
            refine StepD.by0 [] rfl rfl rfl trivial (OpOk.one true [] [hB 1] rfl (by (repeat' apply And.intro) <;> first | exact True.intro | omega | (simp only [inK]; omega) | (simp; done) | (simp; omega) | exact decide_eq_true (by omega) | exact decide_eq_false (by omega) | rfl | (simp [Value.oneCell']; done) | exact i64s_one _ | exact AggOk.mk (by kernel_rfl) (by kernel_rfl)) ?_)
            exact AtD.weak (hd8 (b7, b8)) ⟨rfl, rfl, rfl, rfl, rfl, rfl, rfl, rfl, rfl, rfl, rfl, rfl, rfl, rfl, rfl, trivial⟩
          refine AtD.cut (ι := Nat × Nat) 2 #[true, true, true, true, true, true, true, true, true, true, true, true, true, false, false] (fun ⟨b7, b8⟩ => [(1, .pointer (some ⟨bq, 0, none⟩)), (6, .int .i64 i), (79, .pointer (some ⟨bq, 1, none⟩)), (80, .slice (some ⟨g, o, none⟩) b.S.length c2), (81, .int .i64 i), (82, .int .i64 ((i : Int) - 1)), (83, .pointer (some ⟨g, o + ((i : Int) - 1).toNat * 3, none⟩)), (84, .agg ⟨[.int .i64 x0, .int .i64 x1, .int .i64 x2]⟩), (85, .pointer (some ⟨bq, 1, none⟩)), (86, .slice (some ⟨g, o, none⟩) b.S.length c2), (87, .int .i64 i), (88, .pointer (some ⟨g, o + (i : Int).toNat * 3, none⟩)), (89, .agg ⟨[.int .i64 y0, .int .i64 y1, .int .i64 y2]⟩), (7, .pointer (some ⟨b7, 0, none⟩)), (8, .pointer (some ⟨b8, 0, none⟩))]) (fun ⟨b7, b8⟩ => [(b7, 51, i64s [0, 0, 0]), (b8, 51, i64s [0, 0, 0]), (bq, 27, bkV b ⟨a1, some ⟨g, o, none⟩, a3, a4, c1, c2, c3, c4⟩)]) ?_ (fun hd6 => ?_)
          · rintro ⟨b7, b8⟩
            refine AtD.fork1 13 (by kernel_rfl) ?_
            refine StepD.by0 [] rfl rfl rfl trivial (OpOk.one true [] [hB 0] rfl (by (repeat' apply And.intro) <;> first | exact True.intro | omega | (simp only [inK]; omega) | (simp; done) | (simp; omega) | exact decide_eq_true (by omega) | exact decide_eq_false (by omega) | rfl | (simp [Value.oneCell']; done) | exact i64s_one _ | exact AggOk.mk (by kernel_rfl) (by kernel_rfl)) ?_)
            exact AtD.weak (hd7 (b7, b8)) ⟨rfl, rfl, rfl, rfl, rfl, rfl, rfl, rfl, rfl, rfl, rfl, rfl, rfl, rfl, rfl, trivial⟩
          refine AtD.cut (ι := Nat) 3 #[true, true, true, true, true, true, true, true, true, true, true, true, false, false, false] (fun b7 => [(1, .pointer (some ⟨bq, 0, none⟩)), (6, .int .i64 i), (79, .pointer (some ⟨bq, 1, none⟩)), (80, .slice (some ⟨g, o, none⟩) b.S.length c2), (81, .int .i64 i), (82, .int .i64 ((i : Int) - 1)), (83, .pointer (some ⟨g, o + ((i : Int) - 1).toNat * 3, none⟩)), (84, .agg ⟨[.int .i64 x0, .int .i64 x1, .int .i64 x2]⟩), (85, .pointer (some ⟨bq, 1, none⟩)), (86, .slice (some ⟨g, o, none⟩) b.S.length c2), (87, .int .i64 i), (88, .pointer (some ⟨g, o + (i : Int).toNat * 3, none⟩)), (89, .agg ⟨[.int .i64 y0, .int .i64 y1, .int .i64 y2]⟩), (7, .pointer (some ⟨b7, 0, none⟩))]) (fun b7 => [(b7, 51, i64s [0, 0, 0]), (bq, 27, bkV b ⟨a1, some ⟨g, o, none⟩, a3, a4, c1, c2, c3, c4⟩)]) ?_ (fun hd5 => ?_)
          · rintro b7
            refine AtD.fork1 12 (by kernel_rfl) ?_
            refine StepD.by [] rfl rfl rfl rfl trivial (OpOk.alloc (cs := i64s [0, 0, 0]) rfl (by kernel_rfl) fun b8 hb8 => ?_)
            refine AtD.perm (List.Perm.swap _ _ _) ?_
            exact AtD.weak (hd6 (b7, b8)) ⟨rfl, rfl, rfl, rfl, rfl, rfl, rfl, rfl, rfl, rfl, rfl, rfl, rfl, rfl, rfl, trivial⟩
          refine AtD.cut (ι := Nat) 3 #[true, true, true, true, true, true, true, true, true, true, true, false, true, false, false] (fun b8 => [(1, .pointer (some ⟨bq, 0, none⟩)), (6, .int .i64 i), (79, .pointer (some ⟨bq, 1, none⟩)), (80, .slice (some ⟨g, o, none⟩) b.S.length c2), (81, .int .i64 i), (82, .int .i64 ((i : Int) - 1)), (83, .pointer (some ⟨g, o + ((i : Int) - 1).toNat * 3, none⟩)), (84, .agg ⟨[.int .i64 x0, .int .i64 x1, .int .i64 x2]⟩), (85, .pointer (some ⟨bq, 1, none⟩)), (86, .slice (some ⟨g, o, none⟩) b.S.length c2), (87, .int .i64 i), (88, .pointer (some ⟨g, o + (i : Int).toNat * 3, none⟩)), (89, .agg ⟨[.int .i64 y0, .int .i64 y1, .int .i64 y2]⟩), (8, .pointer (some ⟨b8, 0, none⟩))]) (fun b8 => [(b8, 51, i64s [0, 0, 0]), (bq, 27, bkV b ⟨a1, some ⟨g, o, none⟩, a3, a4, c1, c2, c3, c4⟩)]) ?_ (fun hd9 => ?_)
          · rintro b8
            refine AtD.fork1 11 (by kernel_rfl) ?_
            refine StepD.by [] rfl rfl rfl rfl trivial (OpOk.alloc (cs := i64s [0, 0, 0]) rfl (by kernel_rfl) fun b7 hb7 => ?_)
            exact AtD.weak (hd6 (b7, b8)) ⟨rfl, rfl, rfl, rfl, rfl, rfl, rfl, rfl, rfl, rfl, rfl, rfl, rfl, rfl, rfl, trivial⟩
          refine AtD.cut (ι := Unit) 4 #[true, true, true, true, true, true, true, true, true, true, true, false, false, false, false] (fun _ => [(1, .pointer (some ⟨bq, 0, none⟩)), (6, .int .i64 i), (79, .pointer (some ⟨bq, 1, none⟩)), (80, .slice (some ⟨g, o, none⟩) b.S.length c2), (81, .int .i64 i), (82, .int .i64 ((i : Int) - 1)), (83, .pointer (some ⟨g, o + ((i : Int) - 1).toNat * 3, none⟩)), (84, .agg ⟨[.int .i64 x0, .int .i64 x1, .int .i64 x2]⟩), (85, .pointer (some ⟨bq, 1, none⟩)), (86, .slice (some ⟨g, o, none⟩) b.S.length c2), (87, .int .i64 i), (88, .pointer (some ⟨g, o + (i : Int).toNat * 3, none⟩)), (89, .agg ⟨[.int .i64 y0, .int .i64 y1, .int .i64 y2]⟩)]) (fun _ => [(bq, 27, bkV b ⟨a1, some ⟨g, o, none⟩, a3, a4, c1, c2, c3, c4⟩)]) ?_ (fun hd4 => ?_)
          · rintro ⟨⟩
            refine AtD.fork [11, 12] (by kernel_rfl) (by simp) (fun i hi => ?_)
            simp only [List.mem_cons, List.not_mem_nil, or_false] at hi
            rcases hi with rfl | rfl
            · refine StepD.by [] rfl rfl rfl rfl trivial (OpOk.alloc (cs := i64s [0, 0, 0]) rfl (by kernel_rfl) fun b7 hb7 => ?_)
              exact AtD.weak (hd5 (b7)) ⟨rfl, rfl, rfl, rfl, rfl, rfl, rfl, rfl, rfl, rfl, rfl, rfl, rfl, rfl, trivial⟩
            · refine StepD.by [] rfl rfl rfl rfl trivial (OpOk.alloc (cs := i64s [0, 0, 0]) rfl (by kernel_rfl) fun b8 hb8 => ?_)
              exact AtD.weak (hd9 (b8)) ⟨rfl, rfl, rfl, rfl, rfl, rfl, rfl, rfl, rfl, rfl, rfl, rfl, rfl, rfl, trivial⟩
          refine AtD.cut (ι := Nat × Nat) 2 #[true, true, true, true, true, true, true, true, true, true, false, true, true, true, false] (fun ⟨b7, b8⟩ => [(1, .pointer (some ⟨bq, 0, none⟩)), (6, .int .i64 i), (79, .pointer (some ⟨bq, 1, none⟩)), (80, .slice (some ⟨g, o, none⟩) b.S.length c2), (81, .int .i64 i), (82, .int .i64 ((i : Int) - 1)), (83, .pointer (some ⟨g, o + ((i : Int) - 1).toNat * 3, none⟩)), (84, .agg ⟨[.int .i64 x0, .int .i64 x1, .int .i64 x2]⟩), (85, .pointer (some ⟨bq, 1, none⟩)), (86, .slice (some ⟨g, o, none⟩) b.S.length c2), (87, .int .i64 i), (88, .pointer (some ⟨g, o + (i : Int).toNat * 3, none⟩)), (7, .pointer (some ⟨b7, 0, none⟩)), (8, .pointer (some ⟨b8, 0, none⟩))]) (fun ⟨b7, b8⟩ => [(b7, 51, [.int .i64 x0, .int .i64 x1, .int .i64 x2]), (b8, 51, i64s [0, 0, 0]), (bq, 27, bkV b ⟨a1, some ⟨g, o, none⟩, a3, a4, c1, c2, c3, c4⟩)]) ?_ (fun hd12 => ?_)
          · rintro ⟨b7, b8⟩
            refine AtD.fork1 10 (by kernel_rfl) ?_
            refine StepD.by [] rfl rfl rfl rfl trivial (OpOk.one true [] [hR [.int .i64 y0, .int .i64 y1, .int .i64 y2]] rfl r2 ?_)
            exact AtD.weak (hd7 (b7, b8)) ⟨rfl, rfl, rfl, rfl, rfl, rfl, rfl, rfl, rfl, rfl, rfl, rfl, rfl, rfl, rfl, trivial⟩
          refine AtD.cut (ι := Nat × Nat) 3 #[true, true, true, true, true, true, true, true, true, true, false, true, true, false, false] (fun ⟨b7, b8⟩ => [(1, .pointer (some ⟨bq, 0, none⟩)), (6, .int .i64 i), (79, .pointer (some ⟨bq, 1, none⟩)), (80, .slice (some ⟨g, o, none⟩) b.S.length c2), (81, .int .i64 i), (82, .int .i64 ((i : Int) - 1)), (83, .pointer (some ⟨g, o + ((i : Int) - 1).toNat * 3, none⟩)), (84, .agg ⟨[.int .i64 x0, .int .i64 x1, .int .i64 x2]⟩), (85, .pointer (some ⟨bq, 1, none⟩)), (86, .slice (some ⟨g, o, none⟩) b.S.length c2), (87, .int .i64 i), (88, .pointer (some ⟨g, o + (i : Int).toNat * 3, none⟩)), (7, .pointer (some ⟨b7, 0, none⟩)), (8, .pointer (some ⟨b8, 0, none⟩))]) (fun ⟨b7, b8⟩ => [(b7, 51, i64s [0, 0, 0]), (b8, 51, i64s [0, 0, 0]), (bq, 27, bkV b ⟨a1, some ⟨g, o, none⟩, a3, a4, c1, c2, c3, c4⟩)]) ?_ (fun hd11 => ?_)
          · rintro ⟨b7, b8⟩
            refine AtD.fork [10, 13] (by kernel_rfl) (by simp) (fun i hi => ?_)
            simp only [List.mem_cons, List.not_mem_nil, or_false] at hi
            rcases hi with rfl | rfl
            · refine StepD.by [] rfl rfl rfl rfl trivial (OpOk.one true [] [hR [.int .i64 y0, .int .i64 y1, .int .i64 y2]] rfl r2 ?_)
              exact AtD.weak (hd6 (b7, b8)) ⟨rfl, rfl, rfl, rfl, rfl, rfl, rfl, rfl, rfl, rfl, rfl, rfl, rfl, rfl, rfl, trivial⟩
            · refine StepD.by0 [] rfl rfl rfl trivial (OpOk.one true [] [hB 0] rfl (by (repeat' apply And.intro) <;> first | exact True.intro | omega | (simp only [inK]; omega) | (simp; done) | (simp; omega) | exact decide_eq_true (by omega) | exact decide_eq_false (by omega) | rfl | (simp [Value.oneCell']; done) | exact i64s_one _ | exact AggOk.mk (by kernel_rfl) (by kernel_rfl)) ?_)
              exact AtD.weak (hd12 (b7, b8)) ⟨rfl, rfl, rfl, rfl, rfl, rfl, rfl, rfl, rfl, rfl, rfl, rfl, rfl, rfl, trivial⟩
          refine AtD.cut (ι := Nat) 4 #[true, true, true, true, true, true, true, true, true, true, false, true, false, false, false] (fun b7 => [(1, .pointer (some ⟨bq, 0, none⟩)), (6, .int .i64 i), (79, .pointer (some ⟨bq, 1, none⟩)), (80, .slice (some ⟨g, o, none⟩) b.S.length c2), (81, .int .i64 i), (82, .int .i64 ((i : Int) - 1)), (83, .pointer (some ⟨g, o + ((i : Int) - 1).toNat * 3, none⟩)), (84, .agg ⟨[.int .i64 x0, .int .i64 x1, .int .i64 x2]⟩), (85, .pointer (some ⟨bq, 1, none⟩)), (86, .slice (some ⟨g, o, none⟩) b.S.length c2), (87, .int .i64 i), (88, .pointer (some ⟨g, o + (i : Int).toNat * 3, none⟩)), (7, .pointer (some ⟨b7, 0, none⟩))]) (fun b7 => [(b7, 51, i64s [0, 0, 0]), (bq, 27, bkV b ⟨a1, some ⟨g, o, none⟩, a3, a4, c1, c2, c3, c4⟩)]) ?_ (fun hd10 => ?_)
          · rintro b7
            refine AtD.fork [10, 12] (by kernel_rfl) (by simp) (fun i hi => ?_)
            simp only [List.mem_cons, List.not_mem_nil, or_false] at hi
            rcases hi with rfl | rfl
            · refine StepD.by [] rfl rfl rfl rfl trivial (OpOk.one true [] [hR [.int .i64 y0, .int .i64 y1, .int .i64 y2]] rfl r2 ?_)
              exact AtD.weak (hd5 (b7)) ⟨rfl, rfl, rfl, rfl, rfl, rfl, rfl, rfl, rfl, rfl, rfl, rfl, rfl, rfl, trivial⟩
            · refine StepD.by [] rfl rfl rfl rfl trivial (OpOk.alloc (cs := i64s [0, 0, 0]) rfl (by kernel_rfl) fun b8 hb8 => ?_)
              refine AtD.perm (List.Perm.swap _ _ _) ?_
              exact AtD.weak (hd11 (b7, b8)) ⟨rfl, rfl, rfl, rfl, rfl, rfl, rfl, rfl, rfl, rfl, rfl, rfl, rfl, rfl, trivial⟩
          refine AtD.cut (ι := Nat) 4 #[true, true, true, true, true, true, true, true, true, true, false, false, true, false, false] (fun b8 => [(1, .pointer (some ⟨bq, 0, none⟩)), (6, .int .i64 i), (79, .pointer (some ⟨bq, 1, none⟩)), (80, .slice (some ⟨g, o, none⟩) b.S.length c2), (81, .int .i64 i), (82, .int .i64 ((i : Int) - 1)), (83, .pointer (some ⟨g, o + ((i : Int) - 1).toNat * 3, none⟩)), (84, .agg ⟨[.int .i64 x0, .int .i64 x1, .int .i64 x2]⟩), (85, .pointer (some ⟨bq, 1, none⟩)), (86, .slice (some ⟨g, o, none⟩) b.S.length c2), (87, .int .i64 i), (88, .pointer (some ⟨g, o + (i : Int).toNat * 3, none⟩)), (8, .pointer (some ⟨b8, 0, none⟩))]) (fun b8 => [(b8, 51, i64s [0, 0, 0]), (bq, 27, bkV b ⟨a1, some ⟨g, o, none⟩, a3, a4, c1, c2, c3, c4⟩)]) ?_ (fun hd13 => ?_)
          · rintro b8
            refine AtD.fork [10, 11] (by kernel_rfl) (by simp) (fun i hi => ?_)
            simp only [List.mem_cons, List.not_mem_nil, or_false] at hi
            rcases hi with rfl | rfl
            · refine StepD.by [] rfl rfl rfl rfl trivial (OpOk.one true [] [hR [.int .i64 y0, .int .i64 y1, .int .i64 y2]] rfl r2 ?_)
              exact AtD.weak (hd9 (b8)) ⟨rfl, rfl, rfl, rfl, rfl, rfl, rfl, rfl, rfl, rfl, rfl, rfl, rfl, rfl, trivial⟩
            · refine StepD.by [] rfl rfl rfl rfl trivial (OpOk.alloc (cs := i64s [0, 0, 0]) rfl (by kernel_rfl) fun b7 hb7 => ?_)
              exact AtD.weak (hd11 (b7, b8)) ⟨rfl, rfl, rfl, rfl, rfl, rfl, rfl, rfl, rfl, rfl, rfl, rfl, rfl, rfl, trivial⟩
          refine AtD.cut (ι := Unit) 5 #[true, true, true, true, true, true, true, true, true, true, false, false, false, false, false] (fun _ => [(1, .pointer (some ⟨bq, 0, none⟩)), (6, .int .i64 i), (79, .pointer (some ⟨bq, 1, none⟩)), (80, .slice (some ⟨g, o, none⟩) b.S.length c2), (81, .int .i64 i), (82, .int .i64 ((i : Int) - 1)), (83, .pointer (some ⟨g, o + ((i : Int) - 1).toNat * 3, none⟩)), (84, .agg ⟨[.int .i64 x0, .int .i64 x1, .int .i64 x2]⟩), (85, .pointer (some ⟨bq, 1, none⟩)), (86, .slice (some ⟨g, o, none⟩) b.S.length c2), (87, .int .i64 i), (88, .pointer (some ⟨g, o + (i : Int).toNat * 3, none⟩))]) (fun _ => [(bq, 27, bkV b ⟨a1, some ⟨g, o, none⟩, a3, a4, c1, c2, c3, c4⟩)]) ?_ (fun hd3 => ?_)
          · rintro ⟨⟩
            refine AtD.fork [10, 11, 12] (by kernel_rfl) (by simp) (fun i hi => ?_)
            simp only [List.mem_cons, List.not_mem_nil, or_false] at hi
            rcases hi with rfl | rfl | rfl
            · refine StepD.by [] rfl rfl rfl rfl trivial (OpOk.one true [] [hR [.int .i64 y0, .int .i64 y1, .int .i64 y2]] rfl r2 ?_)
              exact AtD.weak (hd4 ()) ⟨rfl, rfl, rfl, rfl, rfl, rfl, rfl, rfl, rfl, rfl, rfl, rfl, rfl, trivial⟩
            · refine StepD.by [] rfl rfl rfl rfl trivial (OpOk.alloc (cs := i64s [0, 0, 0]) rfl (by kernel_rfl) fun b7 hb7 => ?_)
              exact AtD.weak (hd10 (b7)) ⟨rfl, rfl, rfl, rfl, rfl, rfl, rfl, rfl, rfl, rfl, rfl, rfl, rfl, trivial⟩
            · refine StepD.by [] rfl rfl rfl rfl trivial (OpOk.alloc (cs := i64s [0, 0, 0]) rfl (by kernel_rfl) fun b8 hb8 => ?_)
              exact AtD.weak (hd13 (b8)) ⟨rfl, rfl, rfl, rfl, rfl, rfl, rfl, rfl, rfl, rfl, rfl, rfl, rfl, trivial⟩
          refine AtD.cut (ι := Nat × Nat) 4 #[true, true, true, true, true, true, true, false, true, false, false, true, true, true, false] (fun ⟨b7, b8⟩ => [(1, .pointer (some ⟨bq, 0, none⟩)), (6, .int .i64 i), (79, .pointer (some ⟨bq, 1, none⟩)), (80, .slice (some ⟨g, o, none⟩) b.S.length c2), (81, .int .i64 i), (82, .int .i64 ((i : Int) - 1)), (83, .pointer (some ⟨g, o + ((i : Int) - 1).toNat * 3, none⟩)), (84, .agg ⟨[.int .i64 x0, .int .i64 x1, .int .i64 x2]⟩), (85, .pointer (some ⟨bq, 1, none⟩)), (87, .int .i64 i), (7, .pointer (some ⟨b7, 0, none⟩)), (8, .pointer (some ⟨b8, 0, none⟩))]) (fun ⟨b7, b8⟩ => [(b7, 51, [.int .i64 x0, .int .i64 x1, .int .i64 x2]), (b8, 51, i64s [0, 0, 0]), (bq, 27, bkV b ⟨a1, some ⟨g, o, none⟩, a3, a4, c1, c2, c3, c4⟩)]) ?_ (fun hd16 => ?_)
          · rintro ⟨b7, b8⟩
            refine AtD.fork1 7 (by kernel_rfl) ?_
            refine StepD.by [] rfl rfl rfl rfl trivial (OpOk.one true [] [hB 2] rfl rfl ?_)
            refine AtD.pures (ob := True) true (by kernel_rfl) [9] (fuel := 2) (by kernel_rfl) rfl (by (repeat' apply And.intro) <;> first | exact True.intro | omega | (simp only [inK]; omega) | (simp; done) | (simp; omega) | exact decide_eq_true (by omega) | exact decide_eq_false (by omega) | rfl | (simp [Value.oneCell']; done) | exact i64s_one _ | exact AggOk.mk (by kernel_rfl) (by kernel_rfl)) ?_
            exact AtD.weak (hd12 (b7, b8)) ⟨rfl, rfl, rfl, rfl, rfl, rfl, rfl, rfl, rfl, rfl, rfl, rfl, rfl, rfl, trivial⟩
          refine AtD.cut (ι := Nat × Nat) 5 #[true, true, true, true, true, true, true, false, true, false, false, true, true, false, false] (fun ⟨b7, b8⟩ => [(1, .pointer (some ⟨bq, 0, none⟩)), (6, .int .i64 i), (79, .pointer (some ⟨bq, 1, none⟩)), (80, .slice (some ⟨g, o, none⟩) b.S.length c2), (81, .int .i64 i), (82, .int .i64 ((i : Int) - 1)), (83, .pointer (some ⟨g, o + ((i : Int) - 1).toNat * 3, none⟩)), (84, .agg ⟨[.int .i64 x0, .int .i64 x1, .int .i64 x2]⟩), (85, .pointer (some ⟨bq, 1, none⟩)), (87, .int .i64 i), (7, .pointer (some ⟨b7, 0, none⟩)), (8, .pointer (some ⟨b8, 0, none⟩))]) (fun ⟨b7, b8⟩ => [(b7, 51, i64s [0, 0, 0]), (b8, 51, i64s [0, 0, 0]), (bq, 27, bkV b ⟨a1, some ⟨g, o, none⟩, a3, a4, c1, c2, c3, c4⟩)]) ?_ (fun hd15 => ?_)
          · rintro ⟨b7, b8⟩
            refine AtD.fork [7, 13] (by kernel_rfl) (by simp) (fun i hi => ?_)
            simp only [List.mem_cons, List.not_mem_nil, or_false] at hi
            rcases hi with rfl | rfl
            · refine StepD.by [] rfl rfl rfl rfl trivial (OpOk.one true [] [hB 2] rfl rfl ?_)
              refine AtD.pures (ob := True) true (by kernel_rfl) [9] (fuel := 3) (by kernel_rfl) rfl (by (repeat' apply And.intro) <;> first | exact True.intro | omega | (simp only [inK]; omega) | (simp; done) | (simp; omega) | exact decide_eq_true (by omega) | exact decide_eq_false (by omega) | rfl | (simp [Value.oneCell']; done) | exact i64s_one _ | exact AggOk.mk (by kernel_rfl) (by kernel_rfl)) ?_
              exact AtD.weak (hd11 (b7, b8)) ⟨rfl, rfl, rfl, rfl, rfl, rfl, rfl, rfl, rfl, rfl, rfl, rfl, rfl, rfl, trivial⟩
            · refine StepD.by0 [] rfl rfl rfl trivial (OpOk.one true [] [hB 0] rfl (by (repeat' apply And.intro) <;> first | exact True.intro | omega | (simp only [inK]; omega) | (simp; done) | (simp; omega) | exact decide_eq_true (by omega) | exact decide_eq_false (by omega) | rfl | (simp [Value.oneCell']; done) | exact i64s_one _ | exact AggOk.mk (by kernel_rfl) (by kernel_rfl)) ?_)
              exact AtD.weak (hd16 (b7, b8)) ⟨rfl, rfl, rfl, rfl, rfl, rfl, rfl, rfl, rfl, rfl, rfl, rfl, trivial⟩
          refine AtD.cut (ι := Nat) 6 #[true, true, true, true, true, true, true, false, true, false, false, true, false, false, false] (fun b7 => [(1, .pointer (some ⟨bq, 0, none⟩)), (6, .int .i64 i), (79, .pointer (some ⟨bq, 1, none⟩)), (80, .slice (some ⟨g, o, none⟩) b.S.length c2), (81, .int .i64 i), (82, .int .i64 ((i : Int) - 1)), (83, .pointer (some ⟨g, o + ((i : Int) - 1).toNat * 3, none⟩)), (84, .agg ⟨[.int .i64 x0, .int .i64 x1, .int .i64 x2]⟩), (85, .pointer (some ⟨bq, 1, none⟩)), (87, .int .i64 i), (7, .pointer (some ⟨b7, 0, none⟩))]) (fun b7 => [(b7, 51, i64s [0, 0, 0]), (bq, 27, bkV b ⟨a1, some ⟨g, o, none⟩, a3, a4, c1, c2, c3, c4⟩)]) ?_ (fun hd14 => ?_)
          · rintro b7
            refine AtD.fork [7, 12] (by kernel_rfl) (by simp) (fun i hi => ?_)
            simp only [List.mem_cons, List.not_mem_nil, or_false] at hi
            rcases hi with rfl | rfl
            · refine StepD.by [] rfl rfl rfl rfl trivial (OpOk.one true [] [hB 1] rfl rfl ?_)
              refine AtD.pures (ob := True) true (by kernel_rfl) [9] (fuel := 4) (by kernel_rfl) rfl (by (repeat' apply And.intro) <;> first | exact True.intro | omega | (simp only [inK]; omega) | (simp; done) | (simp; omega) | exact decide_eq_true (by omega) | exact decide_eq_false (by omega) | rfl | (simp [Value.oneCell']; done) | exact i64s_one _ | exact AggOk.mk (by kernel_rfl) (by kernel_rfl)) ?_
              exact AtD.weak (hd10 (b7)) ⟨rfl, rfl, rfl, rfl, rfl, rfl, rfl, rfl, rfl, rfl, rfl, rfl, rfl, trivial⟩
            · refine StepD.by [] rfl rfl rfl rfl trivial (OpOk.alloc (cs := i64s [0, 0, 0]) rfl (by kernel_rfl) fun b8 hb8 => ?_)
              refine AtD.perm (List.Perm.swap _ _ _) ?_
              exact AtD.weak (hd15 (b7, b8)) ⟨rfl, rfl, rfl, rfl, rfl, rfl, rfl, rfl, rfl, rfl, rfl, rfl, trivial⟩
          refine AtD.cut (ι := Nat) 6 #[true, true, true, true, true, true, true, false, true, false, false, false, true, false, false] (fun b8 => [(1, .pointer (some ⟨bq, 0, none⟩)), (6, .int .i64 i), (79, .pointer (some ⟨bq, 1, none⟩)), (80, .slice (some ⟨g, o, none⟩) b.S.length c2), (81, .int .i64 i), (82, .int .i64 ((i : Int) - 1)), (83, .pointer (some ⟨g, o + ((i : Int) - 1).toNat * 3, none⟩)), (84, .agg ⟨[.int .i64 x0, .int .i64 x1, .int .i64 x2]⟩), (85, .pointer (some ⟨bq, 1, none⟩)), (87, .int .i64 i), (8, .pointer (some ⟨b8, 0, none⟩))]) (fun b8 => [(b8, 51, i64s [0, 0, 0]), (bq, 27, bkV b ⟨a1, some ⟨g, o, none⟩, a3, a4, c1, c2, c3, c4⟩)]) ?_ (fun hd17 => ?_)
          · rintro b8
            refine AtD.fork [7, 11] (by kernel_rfl) (by simp) (fun i hi => ?_)
            simp only [List.mem_cons, List.not_mem_nil, or_false] at hi
            rcases hi with rfl | rfl
            · refine StepD.by [] rfl rfl rfl rfl trivial (OpOk.one true [] [hB 1] rfl rfl ?_)
              refine AtD.pures (ob := True) true (by kernel_rfl) [9] (fuel := 4) (by kernel_rfl) rfl (by (repeat' apply And.intro) <;> first | exact True.intro | omega | (simp only [inK]; omega) | (simp; done) | (simp; omega) | exact decide_eq_true (by omega) | exact decide_eq_false (by omega) | rfl | (simp [Value.oneCell']; done) | exact i64s_one _ | exact AggOk.mk (by kernel_rfl) (by kernel_rfl)) ?_
              exact AtD.weak (hd13 (b8)) ⟨rfl, rfl, rfl, rfl, rfl, rfl, rfl, rfl, rfl, rfl, rfl, rfl, rfl, trivial⟩
            · refine StepD.by [] rfl rfl rfl rfl trivial (OpOk.alloc (cs := i64s [0, 0, 0]) rfl (by kernel_rfl) fun b7 hb7 => ?_)
              exact AtD.weak (hd15 (b7, b8)) ⟨rfl, rfl, rfl, rfl, rfl, rfl, rfl, rfl, rfl, rfl, rfl, rfl, trivial⟩
          refine AtD.cut (ι := Unit) 7 #[true, true, true, true, true, true, true, false, true, false, false, false, false, false, false] (fun _ => [(1, .pointer (some ⟨bq, 0, none⟩)), (6, .int .i64 i), (79, .pointer (some ⟨bq, 1, none⟩)), (80, .slice (some ⟨g, o, none⟩) b.S.length c2), (81, .int .i64 i), (82, .int .i64 ((i : Int) - 1)), (83, .pointer (some ⟨g, o + ((i : Int) - 1).toNat * 3, none⟩)), (84, .agg ⟨[.int .i64 x0, .int .i64 x1, .int .i64 x2]⟩), (85, .pointer (some ⟨bq, 1, none⟩)), (87, .int .i64 i)]) (fun _ => [(bq, 27, bkV b ⟨a1, some ⟨g, o, none⟩, a3, a4, c1, c2, c3, c4⟩)]) ?_ (fun hd2 => ?_)
          · rintro ⟨⟩
            refine AtD.fork [7, 11, 12] (by kernel_rfl) (by simp) (fun i hi => ?_)
            simp only [List.mem_cons, List.not_mem_nil, or_false] at hi
            rcases hi with rfl | rfl | rfl
            · refine StepD.by [] rfl rfl rfl rfl trivial (OpOk.one true [] [hB 0] rfl rfl ?_)
              refine AtD.pures (ob := True) true (by kernel_rfl) [9] (fuel := 5) (by kernel_rfl) rfl (by (repeat' apply And.intro) <;> first | exact True.intro | omega | (simp only [inK]; omega) | (simp; done) | (simp; omega) | exact decide_eq_true (by omega) | exact decide_eq_false (by omega) | rfl | (simp [Value.oneCell']; done) | exact i64s_one _ | exact AggOk.mk (by kernel_rfl) (by kernel_rfl)) ?_
              exact AtD.weak (hd3 ()) ⟨rfl, rfl, rfl, rfl, rfl, rfl, rfl, rfl, rfl, rfl, rfl, rfl, trivial⟩
            · refine StepD.by [] rfl rfl rfl rfl trivial (OpOk.alloc (cs := i64s [0, 0, 0]) rfl (by kernel_rfl) fun b7 hb7 => ?_)
              exact AtD.weak (hd14 (b7)) ⟨rfl, rfl, rfl, rfl, rfl, rfl, rfl, rfl, rfl, rfl, rfl, trivial⟩
            · refine StepD.by [] rfl rfl rfl rfl trivial (OpOk.alloc (cs := i64s [0, 0, 0]) rfl (by kernel_rfl) fun b8 hb8 => ?_)
              exact AtD.weak (hd17 (b8)) ⟨rfl, rfl, rfl, rfl, rfl, rfl, rfl, rfl, rfl, rfl, rfl, trivial⟩
          refine AtD.cut (ι := Nat × Nat) 3 #[true, true, true, true, true, false, true, true, true, true, true, true, true, false, false] (fun ⟨b7, b8⟩ => [(1, .pointer (some ⟨bq, 0, none⟩)), (6, .int .i64 i), (79, .pointer (some ⟨bq, 1, none⟩)), (80, .slice (some ⟨g, o, none⟩) b.S.length c2), (81, .int .i64 i), (82, .int .i64 ((i : Int) - 1)), (83, .pointer (some ⟨g, o + ((i : Int) - 1).toNat * 3, none⟩)), (85, .pointer (some ⟨bq, 1, none⟩)), (86, .slice (some ⟨g, o, none⟩) b.S.length c2), (87, .int .i64 i), (88, .pointer (some ⟨g, o + (i : Int).toNat * 3, none⟩)), (89, .agg ⟨[.int .i64 y0, .int .i64 y1, .int .i64 y2]⟩), (7, .pointer (some ⟨b7, 0, none⟩)), (8, .pointer (some ⟨b8, 0, none⟩))]) (fun ⟨b7, b8⟩ => [(b7, 51, i64s [0, 0, 0]), (b8, 51, i64s [0, 0, 0]), (bq, 27, bkV b ⟨a1, some ⟨g, o, none⟩, a3, a4, c1, c2, c3, c4⟩)]) ?_ (fun hd21 => ?_)
          · rintro ⟨b7, b8⟩
            refine AtD.fork1 5 (by kernel_rfl) ?_
            refine StepD.by [] rfl rfl rfl rfl trivial (OpOk.one true [] [hR [.int .i64 x0, .int .i64 x1, .int .i64 x2]] rfl r1 ?_)
            exact AtD.weak (hd6 (b7, b8)) ⟨rfl, rfl, rfl, rfl, rfl, rfl, rfl, rfl, rfl, rfl, rfl, rfl, rfl, rfl, rfl, trivial⟩
          refine AtD.cut (ι := Nat) 4 #[true, true, true, true, true, false, true, true, true, true, true, true, false, false, false] (fun b7 => [(1, .pointer (some ⟨bq, 0, none⟩)), (6, .int .i64 i), (79, .pointer (some ⟨bq, 1, none⟩)), (80, .slice (some ⟨g, o, none⟩) b.S.length c2), (81, .int .i64 i), (82, .int .i64 ((i : Int) - 1)), (83, .pointer (some ⟨g, o + ((i : Int) - 1).toNat * 3, none⟩)), (85, .pointer (some ⟨bq, 1, none⟩)), (86, .slice (some ⟨g, o, none⟩) b.S.length c2), (87, .int .i64 i), (88, .pointer (some ⟨g, o + (i : Int).toNat * 3, none⟩)), (89, .agg ⟨[.int .i64 y0, .int .i64 y1, .int .i64 y2]⟩), (7, .pointer (some ⟨b7, 0, none⟩))]) (fun b7 => [(b7, 51, i64s [0, 0, 0]), (bq, 27, bkV b ⟨a1, some ⟨g, o, none⟩, a3, a4, c1, c2, c3, c4⟩)]) ?_ (fun hd20 => ?_)
          · rintro b7
            refine AtD.fork [5, 12] (by kernel_rfl) (by simp) (fun i hi => ?_)
            simp only [List.mem_cons, List.not_mem_nil, or_false] at hi
            rcases hi with rfl | rfl
            · refine StepD.by [] rfl rfl rfl rfl trivial (OpOk.one true [] [hR [.int .i64 x0, .int .i64 x1, .int .i64 x2]] rfl r1 ?_)
              exact AtD.weak (hd5 (b7)) ⟨rfl, rfl, rfl, rfl, rfl, rfl, rfl, rfl, rfl, rfl, rfl, rfl, rfl, rfl, trivial⟩
            · refine StepD.by [] rfl rfl rfl rfl trivial (OpOk.alloc (cs := i64s [0, 0, 0]) rfl (by kernel_rfl) fun b8 hb8 => ?_)
              refine AtD.perm (List.Perm.swap _ _ _) ?_
              exact AtD.weak (hd21 (b7, b8)) ⟨rfl, rfl, rfl, rfl, rfl, rfl, rfl, rfl, rfl, rfl, rfl, rfl, rfl, rfl, trivial⟩
          refine AtD.cut (ι := Nat) 4 #[true, true, true, true, true, false, true, true, true, true, true, false, true, false, false] (fun b8 => [(1, .pointer (some ⟨bq, 0, none⟩)), (6, .int .i64 i), (79, .pointer (some ⟨bq, 1, none⟩)), (80, .slice (some ⟨g, o, none⟩) b.S.length c2), (81, .int .i64 i), (82, .int .i64 ((i : Int) - 1)), (83, .pointer (some ⟨g, o + ((i : Int) - 1).toNat * 3, none⟩)), (85, .pointer (some ⟨bq, 1, none⟩)), (86, .slice (some ⟨g, o, none⟩) b.S.length c2), (87, .int .i64 i), (88, .pointer (some ⟨g, o + (i : Int).toNat * 3, none⟩)), (89, .agg ⟨[.int .i64 y0, .int .i64 y1, .int .i64 y2]⟩), (8, .pointer (some ⟨b8, 0, none⟩))]) (fun b8 => [(b8, 51, i64s [0, 0, 0]), (bq, 27, bkV b ⟨a1, some ⟨g, o, none⟩, a3, a4, c1, c2, c3, c4⟩)]) ?_ (fun hd22 => ?_)
          · rintro b8
            refine AtD.fork [5, 11] (by kernel_rfl) (by simp) (fun i hi => ?_)
            simp only [List.mem_cons, List.not_mem_nil, or_false] at hi
            rcases hi with rfl | rfl
            · refine StepD.by [] rfl rfl rfl rfl trivial (OpOk.one true [] [hR [.int .i64 x0, .int .i64 x1, .int .i64 x2]] rfl r1 ?_)
              exact AtD.weak (hd9 (b8)) ⟨rfl, rfl, rfl, rfl, rfl, rfl, rfl, rfl, rfl, rfl, rfl, rfl, rfl, rfl, trivial⟩
            · refine StepD.by [] rfl rfl rfl rfl trivial (OpOk.alloc (cs := i64s [0, 0, 0]) rfl (by kernel_rfl) fun b7 hb7 => ?_)
              exact AtD.weak (hd21 (b7, b8)) ⟨rfl, rfl, rfl, rfl, rfl, rfl, rfl, rfl, rfl, rfl, rfl, rfl, rfl, rfl, trivial⟩
          refine AtD.cut (ι := Unit) 5 #[true, true, true, true, true, false, true, true, true, true, true, false, false, false, false] (fun _ => [(1, .pointer (some ⟨bq, 0, none⟩)), (6, .int .i64 i), (79, .pointer (some ⟨bq, 1, none⟩)), (80, .slice (some ⟨g, o, none⟩) b.S.length c2), (81, .int .i64 i), (82, .int .i64 ((i : Int) - 1)), (83, .pointer (some ⟨g, o + ((i : Int) - 1).toNat * 3, none⟩)), (85, .pointer (some ⟨bq, 1, none⟩)), (86, .slice (some ⟨g, o, none⟩) b.S.length c2), (87, .int .i64 i), (88, .pointer (some ⟨g, o + (i : Int).toNat * 3, none⟩)), (89, .agg ⟨[.int .i64 y0, .int .i64 y1, .int .i64 y2]⟩)]) (fun _ => [(bq, 27, bkV b ⟨a1, some ⟨g, o, none⟩, a3, a4, c1, c2, c3, c4⟩)]) ?_ (fun hd19 => ?_)
          · rintro ⟨⟩
            refine AtD.fork [5, 11, 12] (by kernel_rfl) (by simp) (fun i hi => ?_)
            simp only [List.mem_cons, List.not_mem_nil, or_false] at hi
            rcases hi with rfl | rfl | rfl
            · refine StepD.by [] rfl rfl rfl rfl trivial (OpOk.one true [] [hR [.int .i64 x0, .int .i64 x1, .int .i64 x2]] rfl r1 ?_)
              exact AtD.weak (hd4 ()) ⟨rfl, rfl, rfl, rfl, rfl, rfl, rfl, rfl, rfl, rfl, rfl, rfl, rfl, trivial⟩
            · refine StepD.by [] rfl rfl rfl rfl trivial (OpOk.alloc (cs := i64s [0, 0, 0]) rfl (by kernel_rfl) fun b7 hb7 => ?_)
              exact AtD.weak (hd20 (b7)) ⟨rfl, rfl, rfl, rfl, rfl, rfl, rfl, rfl, rfl, rfl, rfl, rfl, rfl, trivial⟩
            · refine StepD.by [] rfl rfl rfl rfl trivial (OpOk.alloc (cs := i64s [0, 0, 0]) rfl (by kernel_rfl) fun b8 hb8 => ?_)
              exact AtD.weak (hd22 (b8)) ⟨rfl, rfl, rfl, rfl, rfl, rfl, rfl, rfl, rfl, rfl, rfl, rfl, rfl, trivial⟩
          refine AtD.cut (ι := Nat × Nat) 4 #[true, true, true, true, true, false, true, true, true, true, false, true, true, false, false] (fun ⟨b7, b8⟩ => [(1, .pointer (some ⟨bq, 0, none⟩)), (6, .int .i64 i), (79, .pointer (some ⟨bq, 1, none⟩)), (80, .slice (some ⟨g, o, none⟩) b.S.length c2), (81, .int .i64 i), (82, .int .i64 ((i : Int) - 1)), (83, .pointer (some ⟨g, o + ((i : Int) - 1).toNat * 3, none⟩)), (85, .pointer (some ⟨bq, 1, none⟩)), (86, .slice (some ⟨g, o, none⟩) b.S.length c2), (87, .int .i64 i), (88, .pointer (some ⟨g, o + (i : Int).toNat * 3, none⟩)), (7, .pointer (some ⟨b7, 0, none⟩)), (8, .pointer (some ⟨b8, 0, none⟩))]) (fun ⟨b7, b8⟩ => [(b7, 51, i64s [0, 0, 0]), (b8, 51, i64s [0, 0, 0]), (bq, 27, bkV b ⟨a1, some ⟨g, o, none⟩, a3, a4, c1, c2, c3, c4⟩)]) ?_ (fun hd24 => ?_)
          · rintro ⟨b7, b8⟩
            refine AtD.fork [5, 10] (by kernel_rfl) (by simp) (fun i hi => ?_)
            simp only [List.mem_cons, List.not_mem_nil, or_false] at hi
            rcases hi with rfl | rfl
            · refine StepD.by [] rfl rfl rfl rfl trivial (OpOk.one true [] [hR [.int .i64 x0, .int .i64 x1, .int .i64 x2]] rfl r1 ?_)
              exact AtD.weak (hd11 (b7, b8)) ⟨rfl, rfl, rfl, rfl, rfl, rfl, rfl, rfl, rfl, rfl, rfl, rfl, rfl, rfl, trivial⟩
            · refine StepD.by [] rfl rfl rfl rfl trivial (OpOk.one true [] [hR [.int .i64 y0, .int .i64 y1, .int .i64 y2]] rfl r2 ?_)
              exact AtD.weak (hd21 (b7, b8)) ⟨rfl, rfl, rfl, rfl, rfl, rfl, rfl, rfl, rfl, rfl, rfl, rfl, rfl, rfl, trivial⟩
          refine AtD.cut (ι := Nat) 5 #[true, true, true, true, true, false, true, true, true, true, false, true, false, false, false] (fun b7 => [(1, .pointer (some ⟨bq, 0, none⟩)), (6, .int .i64 i), (79, .pointer (some ⟨bq, 1, none⟩)), (80, .slice (some ⟨g, o, none⟩) b.S.length c2), (81, .int .i64 i), (82, .int .i64 ((i : Int) - 1)), (83, .pointer (some ⟨g, o + ((i : Int) - 1).toNat * 3, none⟩)), (85, .pointer (some ⟨bq, 1, none⟩)), (86, .slice (some ⟨g, o, none⟩) b.S.length c2), (87, .int .i64 i), (88, .pointer (some ⟨g, o + (i : Int).toNat * 3, none⟩)), (7, .pointer (some ⟨b7, 0, none⟩))]) (fun b7 => [(b7, 51, i64s [0, 0, 0]), (bq, 27, bkV b ⟨a1, some ⟨g, o, none⟩, a3, a4, c1, c2, c3, c4⟩)]) ?_ (fun hd23 => ?_)
          · rintro b7
            refine AtD.fork [5, 10, 12] (by kernel_rfl) (by simp) (fun i hi => ?_)
            simp only [List.mem_cons, List.not_mem_nil, or_false] at hi
            rcases hi with rfl | rfl | rfl
            · refine StepD.by [] rfl rfl rfl rfl trivial (OpOk.one true [] [hR [.int .i64 x0, .int .i64 x1, .int .i64 x2]] rfl r1 ?_)
              exact AtD.weak (hd10 (b7)) ⟨rfl, rfl, rfl, rfl, rfl, rfl, rfl, rfl, rfl, rfl, rfl, rfl, rfl, trivial⟩
            · refine StepD.by [] rfl rfl rfl rfl trivial (OpOk.one true [] [hR [.int .i64 y0, .int .i64 y1, .int .i64 y2]] rfl r2 ?_)
              exact AtD.weak (hd20 (b7)) ⟨rfl, rfl, rfl, rfl, rfl, rfl, rfl, rfl, rfl, rfl, rfl, rfl, rfl, trivial⟩
            · refine StepD.by [] rfl rfl rfl rfl trivial (OpOk.alloc (cs := i64s [0, 0, 0]) rfl (by kernel_rfl) fun b8 hb8 => ?_)
              refine AtD.perm (List.Perm.swap _ _ _) ?_
              exact AtD.weak (hd24 (b7, b8)) ⟨rfl, rfl, rfl, rfl, rfl, rfl, rfl, rfl, rfl, rfl, rfl, rfl, rfl, trivial⟩
          refine AtD.cut (ι := Nat) 5 #[true, true, true, true, true, false, true, true, true, true, false, false, true, false, false] (fun b8 => [(1, .pointer (some ⟨bq, 0, none⟩)), (6, .int .i64 i), (79, .pointer (some ⟨bq, 1, none⟩)), (80, .slice (some ⟨g, o, none⟩) b.S.length c2), (81, .int .i64 i), (82, .int .i64 ((i : Int) - 1)), (83, .pointer (some ⟨g, o + ((i : Int) - 1).toNat * 3, none⟩)), (85, .pointer (some ⟨bq, 1, none⟩)), (86, .slice (some ⟨g, o, none⟩) b.S.length c2), (87, .int .i64 i), (88, .pointer (some ⟨g, o + (i : Int).toNat * 3, none⟩)), (8, .pointer (some ⟨b8, 0, none⟩))]) (fun b8 => [(b8, 51, i64s [0, 0, 0]), (bq, 27, bkV b ⟨a1, some ⟨g, o, none⟩, a3, a4, c1, c2, c3, c4⟩)]) ?_ (fun hd25 => ?_)
          · rintro b8
            refine AtD.fork [5, 10, 11] (by kernel_rfl) (by simp) (fun i hi => ?_)
            simp only [List.mem_cons, List.not_mem_nil, or_false] at hi
            rcases hi with rfl | rfl | rfl
            · refine StepD.by [] rfl rfl rfl rfl trivial (OpOk.one true [] [hR [.int .i64 x0, .int .i64 x1, .int .i64 x2]] rfl r1 ?_)
              exact AtD.weak (hd13 (b8)) ⟨rfl, rfl, rfl, rfl, rfl, rfl, rfl, rfl, rfl, rfl, rfl, rfl, rfl, trivial⟩
            · refine StepD.by [] rfl rfl rfl rfl trivial (OpOk.one true [] [hR [.int .i64 y0, .int .i64 y1, .int .i64 y2]] rfl r2 ?_)
              exact AtD.weak (hd22 (b8)) ⟨rfl, rfl, rfl, rfl, rfl, rfl, rfl, rfl, rfl, rfl, rfl, rfl, rfl, trivial⟩
            · refine StepD.by [] rfl rfl rfl rfl trivial (OpOk.alloc (cs := i64s [0, 0, 0]) rfl (by kernel_rfl) fun b7 hb7 => ?_)
              exact AtD.weak (hd24 (b7, b8)) ⟨rfl, rfl, rfl, rfl, rfl, rfl, rfl, rfl, rfl, rfl, rfl, rfl, rfl, trivial⟩
          refine AtD.cut (ι := Unit) 6 #[true, true, true, true, true, false, true, true, true, true, false, false, false, false, false] (fun _ => [(1, .pointer (some ⟨bq, 0, none⟩)), (6, .int .i64 i), (79, .pointer (some ⟨bq, 1, none⟩)), (80, .slice (some ⟨g, o, none⟩) b.S.length c2), (81, .int .i64 i), (82, .int .i64 ((i : Int) - 1)), (83, .pointer (some ⟨g, o + ((i : Int) - 1).toNat * 3, none⟩)), (85, .pointer (some ⟨bq, 1, none⟩)), (86, .slice (some ⟨g, o, none⟩) b.S.length c2), (87, .int .i64 i), (88, .pointer (some ⟨g, o + (i : Int).toNat * 3, none⟩))]) (fun _ => [(bq, 27, bkV b ⟨a1, some ⟨g, o, none⟩, a3, a4, c1, c2, c3, c4⟩)]) ?_ (fun hd18 => ?_)
          · rintro ⟨⟩
            refine AtD.fork [5, 10, 11, 12] (by kernel_rfl) (by simp) (fun i hi => ?_)
            simp only [List.mem_cons, List.not_mem_nil, or_false] at hi
            rcases hi with rfl | rfl | rfl | rfl
            · refine StepD.by [] rfl rfl rfl rfl trivial (OpOk.one true [] [hR [.int .i64 x0, .int .i64 x1, .int .i64 x2]] rfl r1 ?_)
              exact AtD.weak (hd3 ()) ⟨rfl, rfl, rfl, rfl, rfl, rfl, rfl, rfl, rfl, rfl, rfl, rfl, trivial⟩
            · refine StepD.by [] rfl rfl rfl rfl trivial (OpOk.one true [] [hR [.int .i64 y0, .int .i64 y1, .int .i64 y2]] rfl r2 ?_)
              exact AtD.weak (hd19 ()) ⟨rfl, rfl, rfl, rfl, rfl, rfl, rfl, rfl, rfl, rfl, rfl, rfl, trivial⟩
            · refine StepD.by [] rfl rfl rfl rfl trivial (OpOk.alloc (cs := i64s [0, 0, 0]) rfl (by kernel_rfl) fun b7 hb7 => ?_)
              exact AtD.weak (hd23 (b7)) ⟨rfl, rfl, rfl, rfl, rfl, rfl, rfl, rfl, rfl, rfl, rfl, rfl, trivial⟩
            · refine StepD.by [] rfl rfl rfl rfl trivial (OpOk.alloc (cs := i64s [0, 0, 0]) rfl (by kernel_rfl) fun b8 hb8 => ?_)
              exact AtD.weak (hd25 (b8)) ⟨rfl, rfl, rfl, rfl, rfl, rfl, rfl, rfl, rfl, rfl, rfl, rfl, trivial⟩
          refine AtD.cut (ι := Nat × Nat) 6 #[true, true, true, true, true, false, true, false, true, false, false, true, true, false, false] (fun ⟨b7, b8⟩ => [(1, .pointer (some ⟨bq, 0, none⟩)), (6, .int .i64 i), (79, .pointer (some ⟨bq, 1, none⟩)), (80, .slice (some ⟨g, o, none⟩) b.S.length c2), (81, .int .i64 i), (82, .int .i64 ((i : Int) - 1)), (83, .pointer (some ⟨g, o + ((i : Int) - 1).toNat * 3, none⟩)), (85, .pointer (some ⟨bq, 1, none⟩)), (87, .int .i64 i), (7, .pointer (some ⟨b7, 0, none⟩)), (8, .pointer (some ⟨b8, 0, none⟩))]) (fun ⟨b7, b8⟩ => [(b7, 51, i64s [0, 0, 0]), (b8, 51, i64s [0, 0, 0]), (bq, 27, bkV b ⟨a1, some ⟨g, o, none⟩, a3, a4, c1, c2, c3, c4⟩)]) ?_ (fun hd27 => ?_)
          · rintro ⟨b7, b8⟩
            refine AtD.fork [5, 7] (by kernel_rfl) (by simp) (fun i hi => ?_)
            simp only [List.mem_cons, List.not_mem_nil, or_false] at hi
            rcases hi with rfl | rfl
            · refine StepD.by [] rfl rfl rfl rfl trivial (OpOk.one true [] [hR [.int .i64 x0, .int .i64 x1, .int .i64 x2]] rfl r1 ?_)
              exact AtD.weak (hd15 (b7, b8)) ⟨rfl, rfl, rfl, rfl, rfl, rfl, rfl, rfl, rfl, rfl, rfl, rfl, trivial⟩
            · refine StepD.by [] rfl rfl rfl rfl trivial (OpOk.one true [] [hB 2] rfl rfl ?_)
              refine AtD.pures (ob := True) true (by kernel_rfl) [9] (fuel := 4) (by kernel_rfl) rfl (by (repeat' apply And.intro) <;> first | exact True.intro | omega | (simp only [inK]; omega) | (simp; done) | (simp; omega) | exact decide_eq_true (by omega) | exact decide_eq_false (by omega) | rfl | (simp [Value.oneCell']; done) | exact i64s_one _ | exact AggOk.mk (by kernel_rfl) (by kernel_rfl)) ?_
              exact AtD.weak (hd24 (b7, b8)) ⟨rfl, rfl, rfl, rfl, rfl, rfl, rfl, rfl, rfl, rfl, rfl, rfl, rfl, trivial⟩
          refine AtD.cut (ι := Nat) 7 #[true, true, true, true, true, false, true, false, true, false, false, true, false, false, false] (fun b7 => [(1, .pointer (some ⟨bq, 0, none⟩)), (6, .int .i64 i), (79, .pointer (some ⟨bq, 1, none⟩)), (80, .slice (some ⟨g, o, none⟩) b.S.length c2), (81, .int .i64 i), (82, .int .i64 ((i : Int) - 1)), (83, .pointer (some ⟨g, o + ((i : Int) - 1).toNat * 3, none⟩)), (85, .pointer (some ⟨bq, 1, none⟩)), (87, .int .i64 i), (7, .pointer (some ⟨b7, 0, none⟩))]) (fun b7 => [(b7, 51, i64s [0, 0, 0]), (bq, 27, bkV b ⟨a1, some ⟨g, o, none⟩, a3, a4, c1, c2, c3, c4⟩)]) ?_ (fun hd26 => ?_)
          · rintro b7
            refine AtD.fork [5, 7, 12] (by kernel_rfl) (by simp) (fun i hi => ?_)
            simp only [List.mem_cons, List.not_mem_nil, or_false] at hi
            rcases hi with rfl | rfl | rfl
            · refine StepD.by [] rfl rfl rfl rfl trivial (OpOk.one true [] [hR [.int .i64 x0, .int .i64 x1, .int .i64 x2]] rfl r1 ?_)
              exact AtD.weak (hd14 (b7)) ⟨rfl, rfl, rfl, rfl, rfl, rfl, rfl, rfl, rfl, rfl, rfl, trivial⟩
            · refine StepD.by [] rfl rfl rfl rfl trivial (OpOk.one true [] [hB 1] rfl rfl ?_)
              refine AtD.pures (ob := True) true (by kernel_rfl) [9] (fuel := 5) (by kernel_rfl) rfl (by (repeat' apply And.intro) <;> first | exact True.intro | omega | (simp only [inK]; omega) | (simp; done) | (simp; omega) | exact decide_eq_true (by omega) | exact decide_eq_false (by omega) | rfl | (simp [Value.oneCell']; done) | exact i64s_one _ | exact AggOk.mk (by kernel_rfl) (by kernel_rfl)) ?_
              exact AtD.weak (hd23 (b7)) ⟨rfl, rfl, rfl, rfl, rfl, rfl, rfl, rfl, rfl, rfl, rfl, rfl, trivial⟩
            · refine StepD.by [] rfl rfl rfl rfl trivial (OpOk.alloc (cs := i64s [0, 0, 0]) rfl (by kernel_rfl) fun b8 hb8 => ?_)
              refine AtD.perm (List.Perm.swap _ _ _) ?_
              exact AtD.weak (hd27 (b7, b8)) ⟨rfl, rfl, rfl, rfl, rfl, rfl, rfl, rfl, rfl, rfl, rfl, trivial⟩
          refine AtD.cut (ι := Nat) 7 #[true, true, true, true, true, false, true, false, true, false, false, false, true, false, false] (fun b8 => [(1, .pointer (some ⟨bq, 0, none⟩)), (6, .int .i64 i), (79, .pointer (some ⟨bq, 1, none⟩)), (80, .slice (some ⟨g, o, none⟩) b.S.length c2), (81, .int .i64 i), (82, .int .i64 ((i : Int) - 1)), (83, .pointer (some ⟨g, o + ((i : Int) - 1).toNat * 3, none⟩)), (85, .pointer (some ⟨bq, 1, none⟩)), (87, .int .i64 i), (8, .pointer (some ⟨b8, 0, none⟩))]) (fun b8 => [(b8, 51, i64s [0, 0, 0]), (bq, 27, bkV b ⟨a1, some ⟨g, o, none⟩, a3, a4, c1, c2, c3, c4⟩)]) ?_ (fun hd28 => ?_)
          · rintro b8
            refine AtD.fork [5, 7, 11] (by kernel_rfl) (by simp) (fun i hi => ?_)
            simp only [List.mem_cons, List.not_mem_nil, or_false] at hi
            rcases hi with rfl | rfl | rfl
            · refine StepD.by [] rfl rfl rfl rfl trivial (OpOk.one true [] [hR [.int .i64 x0, .int .i64 x1, .int .i64 x2]] rfl r1 ?_)
              exact AtD.weak (hd17 (b8)) ⟨rfl, rfl, rfl, rfl, rfl, rfl, rfl, rfl, rfl, rfl, rfl, trivial⟩
            · refine StepD.by [] rfl rfl rfl rfl trivial (OpOk.one true [] [hB 1] rfl rfl ?_)
              refine AtD.pures (ob := True) true (by kernel_rfl) [9] (fuel := 5) (by kernel_rfl) rfl (by (repeat' apply And.intro) <;> first | exact True.intro | omega | (simp only [inK]; omega) | (simp; done) | (simp; omega) | exact decide_eq_true (by omega) | exact decide_eq_false (by omega) | rfl | (simp [Value.oneCell']; done) | exact i64s_one _ | exact AggOk.mk (by kernel_rfl) (by kernel_rfl)) ?_
              exact AtD.weak (hd25 (b8)) ⟨rfl, rfl, rfl, rfl, rfl, rfl, rfl, rfl, rfl, rfl, rfl, rfl, trivial⟩
            · refine StepD.by [] rfl rfl rfl rfl trivial (OpOk.alloc (cs := i64s [0, 0, 0]) rfl (by kernel_rfl) fun b7 hb7 => ?_)
              exact AtD.weak (hd27 (b7, b8)) ⟨rfl, rfl, rfl, rfl, rfl, rfl, rfl, rfl, rfl, rfl, rfl, trivial⟩
          refine AtD.cut (ι := Unit) 8 #[true, true, true, true, true, false, true, false, true, false, false, false, false, false, false] (fun _ => [(1, .pointer (some ⟨bq, 0, none⟩)), (6, .int .i64 i), (79, .pointer (some ⟨bq, 1, none⟩)), (80, .slice (some ⟨g, o, none⟩) b.S.length c2), (81, .int .i64 i), (82, .int .i64 ((i : Int) - 1)), (83, .pointer (some ⟨g, o + ((i : Int) - 1).toNat * 3, none⟩)), (85, .pointer (some ⟨bq, 1, none⟩)), (87, .int .i64 i)]) (fun _ => [(bq, 27, bkV b ⟨a1, some ⟨g, o, none⟩, a3, a4, c1, c2, c3, c4⟩)]) ?_ (fun hd1 => ?_)
          · rintro ⟨⟩
            refine AtD.fork [5, 7, 11, 12] (by kernel_rfl) (by simp) (fun i hi => ?_)
            simp only [List.mem_cons, List.not_mem_nil, or_false] at hi
            rcases hi with rfl | rfl | rfl | rfl
            · refine StepD.by [] rfl rfl rfl rfl trivial (OpOk.one true [] [hR [.int .i64 x0, .int .i64 x1, .int .i64 x2]] rfl r1 ?_)
              exact AtD.weak (hd2 ()) ⟨rfl, rfl, rfl, rfl, rfl, rfl, rfl, rfl, rfl, rfl, trivial⟩
            · refine StepD.by [] rfl rfl rfl rfl trivial (OpOk.one true [] [hB 0] rfl rfl ?_)
              refine AtD.pures (ob := True) true (by kernel_rfl) [9] (fuel := 6) (by kernel_rfl) rfl (by (repeat' apply And.intro) <;> first | exact True.intro | omega | (simp only [inK]; omega) | (simp; done) | (simp; omega) | exact decide_eq_true (by omega) | exact decide_eq_false (by omega) | rfl | (simp [Value.oneCell']; done) | exact i64s_one _ | exact AggOk.mk (by kernel_rfl) (by kernel_rfl)) ?_
              exact AtD.weak (hd18 ()) ⟨rfl, rfl, rfl, rfl, rfl, rfl, rfl, rfl, rfl, rfl, rfl, trivial⟩
            · refine StepD.by [] rfl rfl rfl rfl trivial (OpOk.alloc (cs := i64s [0, 0, 0]) rfl (by kernel_rfl) fun b7 hb7 => ?_)
              exact AtD.weak (hd26 (b7)) ⟨rfl, rfl, rfl, rfl, rfl, rfl, rfl, rfl, rfl, rfl, trivial⟩
            · refine StepD.by [] rfl rfl rfl rfl trivial (OpOk.alloc (cs := i64s [0, 0, 0]) rfl (by kernel_rfl) fun b8 hb8 => ?_)
              exact AtD.weak (hd28 (b8)) ⟨rfl, rfl, rfl, rfl, rfl, rfl, rfl, rfl, rfl, rfl, trivial⟩
          refine AtD.cut (ι := Nat × Nat) 5 #[true, false, true, true, false, false, true, true, true, true, true, true, true, false, false] (fun ⟨b7, b8⟩ => [(1, .pointer (some ⟨bq, 0, none⟩)), (6, .int .i64 i), (79, .pointer (some ⟨bq, 1, none⟩)), (81, .int .i64 i), (82, .int .i64 ((i : Int) - 1)), (85, .pointer (some ⟨bq, 1, none⟩)), (86, .slice (some ⟨g, o, none⟩) b.S.length c2), (87, .int .i64 i), (88, .pointer (some ⟨g, o + (i : Int).toNat * 3, none⟩)), (89, .agg ⟨[.int .i64 y0, .int .i64 y1, .int .i64 y2]⟩), (7, .pointer (some ⟨b7, 0, none⟩)), (8, .pointer (some ⟨b8, 0, none⟩))]) (fun ⟨b7, b8⟩ => [(b7, 51, i64s [0, 0, 0]), (b8, 51, i64s [0, 0, 0]), (bq, 27, bkV b ⟨a1, some ⟨g, o, none⟩, a3, a4, c1, c2, c3, c4⟩)]) ?_ (fun hd32 => ?_)
          · rintro ⟨b7, b8⟩
            refine AtD.fork1 1 (by kernel_rfl) ?_
            refine StepD.by [] rfl rfl rfl rfl trivial (OpOk.one true [] [hB 2] rfl rfl ?_)
            refine AtD.pures (ob := True) true (by kernel_rfl) [4] (fuel := 3) (by kernel_rfl) rfl (by (repeat' apply And.intro) <;> first | exact True.intro | omega | (simp only [inK]; omega) | (simp; done) | (simp; omega) | exact decide_eq_true (by omega) | exact decide_eq_false (by omega) | rfl | (simp [Value.oneCell']; done) | exact i64s_one _ | exact AggOk.mk (by kernel_rfl) (by kernel_rfl)) ?_
            exact AtD.weak (hd21 (b7, b8)) ⟨rfl, rfl, rfl, rfl, rfl, rfl, rfl, rfl, rfl, rfl, rfl, rfl, rfl, rfl, trivial⟩
          refine AtD.cut (ι := Nat) 6 #[true, false, true, true, false, false, true, true, true, true, true, true, false, false, false] (fun b7 => [(1, .pointer (some ⟨bq, 0, none⟩)), (6, .int .i64 i), (79, .pointer (some ⟨bq, 1, none⟩)), (81, .int .i64 i), (82, .int .i64 ((i : Int) - 1)), (85, .pointer (some ⟨bq, 1, none⟩)), (86, .slice (some ⟨g, o, none⟩) b.S.length c2), (87, .int .i64 i), (88, .pointer (some ⟨g, o + (i : Int).toNat * 3, none⟩)), (89, .agg ⟨[.int .i64 y0, .int .i64 y1, .int .i64 y2]⟩), (7, .pointer (some ⟨b7, 0, none⟩))]) (fun b7 => [(b7, 51, i64s [0, 0, 0]), (bq, 27, bkV b ⟨a1, some ⟨g, o, none⟩, a3, a4, c1, c2, c3, c4⟩)]) ?_ (fun hd31 => ?_)
          · rintro b7
            refine AtD.fork [1, 12] (by kernel_rfl) (by simp) (fun i hi => ?_)
            simp only [List.mem_cons, List.not_mem_nil, or_false] at hi
            rcases hi with rfl | rfl
            · refine StepD.by [] rfl rfl rfl rfl trivial (OpOk.one true [] [hB 1] rfl rfl ?_)
              refine AtD.pures (ob := True) true (by kernel_rfl) [4] (fuel := 4) (by kernel_rfl) rfl (by (repeat' apply And.intro) <;> first | exact True.intro | omega | (simp only [inK]; omega) | (simp; done) | (simp; omega) | exact decide_eq_true (by omega) | exact decide_eq_false (by omega) | rfl | (simp [Value.oneCell']; done) | exact i64s_one _ | exact AggOk.mk (by kernel_rfl) (by kernel_rfl)) ?_
              exact AtD.weak (hd20 (b7)) ⟨rfl, rfl, rfl, rfl, rfl, rfl, rfl, rfl, rfl, rfl, rfl, rfl, rfl, trivial⟩
            · refine StepD.by [] rfl rfl rfl rfl trivial (OpOk.alloc (cs := i64s [0, 0, 0]) rfl (by kernel_rfl) fun b8 hb8 => ?_)
              refine AtD.perm (List.Perm.swap _ _ _) ?_
              exact AtD.weak (hd32 (b7, b8)) ⟨rfl, rfl, rfl, rfl, rfl, rfl, rfl, rfl, rfl, rfl, rfl, rfl, trivial⟩
          refine AtD.cut (ι := Nat) 6 #[true, false, true, true, false, false, true, true, true, true, true, false, true, false, false] (fun b8 => [(1, .pointer (some ⟨bq, 0, none⟩)), (6, .int .i64 i), (79, .pointer (some ⟨bq, 1, none⟩)), (81, .int .i64 i), (82, .int .i64 ((i : Int) - 1)), (85, .pointer (some ⟨bq, 1, none⟩)), (86, .slice (some ⟨g, o, none⟩) b.S.length c2), (87, .int .i64 i), (88, .pointer (some ⟨g, o + (i : Int).toNat * 3, none⟩)), (89, .agg ⟨[.int .i64 y0, .int .i64 y1, .int .i64 y2]⟩), (8, .pointer (some ⟨b8, 0, none⟩))]) (fun b8 => [(b8, 51, i64s [0, 0, 0]), (bq, 27, bkV b ⟨a1, some ⟨g, o, none⟩, a3, a4, c1, c2, c3, c4⟩)]) ?_ (fun hd33 => ?_)
          · rintro b8
            refine AtD.fork [1, 11] (by kernel_rfl) (by simp) (fun i hi => ?_)
            simp only [List.mem_cons, List.not_mem_nil, or_false] at hi
            rcases hi with rfl | rfl
            · refine StepD.by [] rfl rfl rfl rfl trivial (OpOk.one true [] [hB 1] rfl rfl ?_)
              refine AtD.pures (ob := True) true (by kernel_rfl) [4] (fuel := 4) (by kernel_rfl) rfl (by (repeat' apply And.intro) <;> first | exact True.intro | omega | (simp only [inK]; omega) | (simp; done) | (simp; omega) | exact decide_eq_true (by omega) | exact decide_eq_false (by omega) | rfl | (simp [Value.oneCell']; done) | exact i64s_one _ | exact AggOk.mk (by kernel_rfl) (by kernel_rfl)) ?_
              exact AtD.weak (hd22 (b8)) ⟨rfl, rfl, rfl, rfl, rfl, rfl, rfl, rfl, rfl, rfl, rfl, rfl, rfl, trivial⟩
            · refine StepD.by [] rfl rfl rfl rfl trivial (OpOk.alloc (cs := i64s [0, 0, 0]) rfl (by kernel_rfl) fun b7 hb7 => ?_)
              exact AtD.weak (hd32 (b7, b8)) ⟨rfl, rfl, rfl, rfl, rfl, rfl, rfl, rfl, rfl, rfl, rfl, rfl, trivial⟩
          refine AtD.cut (ι := Unit) 7 #[true, false, true, true, false, false, true, true, true, true, true, false, false, false, false] (fun _ => [(1, .pointer (some ⟨bq, 0, none⟩)), (6, .int .i64 i), (79, .pointer (some ⟨bq, 1, none⟩)), (81, .int .i64 i), (82, .int .i64 ((i : Int) - 1)), (85, .pointer (some ⟨bq, 1, none⟩)), (86, .slice (some ⟨g, o, none⟩) b.S.length c2), (87, .int .i64 i), (88, .pointer (some ⟨g, o + (i : Int).toNat * 3, none⟩)), (89, .agg ⟨[.int .i64 y0, .int .i64 y1, .int .i64 y2]⟩)]) (fun _ => [(bq, 27, bkV b ⟨a1, some ⟨g, o, none⟩, a3, a4, c1, c2, c3, c4⟩)]) ?_ (fun hd30 => ?_)
          · rintro ⟨⟩
            refine AtD.fork [1, 11, 12] (by kernel_rfl) (by simp) (fun i hi => ?_)
            simp only [List.mem_cons, List.not_mem_nil, or_false] at hi
            rcases hi with rfl | rfl | rfl
            · refine StepD.by [] rfl rfl rfl rfl trivial (OpOk.one true [] [hB 0] rfl rfl ?_)
              refine AtD.pures (ob := True) true (by kernel_rfl) [4] (fuel := 5) (by kernel_rfl) rfl (by (repeat' apply And.intro) <;> first | exact True.intro | omega | (simp only [inK]; omega) | (simp; done) | (simp; omega) | exact decide_eq_true (by omega) | exact decide_eq_false (by omega) | rfl | (simp [Value.oneCell']; done) | exact i64s_one _ | exact AggOk.mk (by kernel_rfl) (by kernel_rfl)) ?_
              exact AtD.weak (hd19 ()) ⟨rfl, rfl, rfl, rfl, rfl, rfl, rfl, rfl, rfl, rfl, rfl, rfl, trivial⟩
            · refine StepD.by [] rfl rfl rfl rfl trivial (OpOk.alloc (cs := i64s [0, 0, 0]) rfl (by kernel_rfl) fun b7 hb7 => ?_)
              exact AtD.weak (hd31 (b7)) ⟨rfl, rfl, rfl, rfl, rfl, rfl, rfl, rfl, rfl, rfl, rfl, trivial⟩
            · refine StepD.by [] rfl rfl rfl rfl trivial (OpOk.alloc (cs := i64s [0, 0, 0]) rfl (by kernel_rfl) fun b8 hb8 => ?_)
              exact AtD.weak (hd33 (b8)) ⟨rfl, rfl, rfl, rfl, rfl, rfl, rfl, rfl, rfl, rfl, rfl, trivial⟩
          refine AtD.cut (ι := Nat × Nat) 6 #[true, false, true, true, false, false, true, true, true, true, false, true, true, false, false] (fun ⟨b7, b8⟩ => [(1, .pointer (some ⟨bq, 0, none⟩)), (6, .int .i64 i), (79, .pointer (some ⟨bq, 1, none⟩)), (81, .int .i64 i), (82, .int .i64 ((i : Int) - 1)), (85, .pointer (some ⟨bq, 1, none⟩)), (86, .slice (some ⟨g, o, none⟩) b.S.length c2), (87, .int .i64 i), (88, .pointer (some ⟨g, o + (i : Int).toNat * 3, none⟩)), (7, .pointer (some ⟨b7, 0, none⟩)), (8, .pointer (some ⟨b8, 0, none⟩))]) (fun ⟨b7, b8⟩ => [(b7, 51, i64s [0, 0, 0]), (b8, 51, i64s [0, 0, 0]), (bq, 27, bkV b ⟨a1, some ⟨g, o, none⟩, a3, a4, c1, c2, c3, c4⟩)]) ?_ (fun hd35 => ?_)
          · rintro ⟨b7, b8⟩
            refine AtD.fork [1, 10] (by kernel_rfl) (by simp) (fun i hi => ?_)
            simp only [List.mem_cons, List.not_mem_nil, or_false] at hi
            rcases hi with rfl | rfl
            · refine StepD.by [] rfl rfl rfl rfl trivial (OpOk.one true [] [hB 2] rfl rfl ?_)
              refine AtD.pures (ob := True) true (by kernel_rfl) [4] (fuel := 4) (by kernel_rfl) rfl (by (repeat' apply And.intro) <;> first | exact True.intro | omega | (simp only [inK]; omega) | (simp; done) | (simp; omega) | exact decide_eq_true (by omega) | exact decide_eq_false (by omega) | rfl | (simp [Value.oneCell']; done) | exact i64s_one _ | exact AggOk.mk (by kernel_rfl) (by kernel_rfl)) ?_
              exact AtD.weak (hd24 (b7, b8)) ⟨rfl, rfl, rfl, rfl, rfl, rfl, rfl, rfl, rfl, rfl, rfl, rfl, rfl, trivial⟩
            · refine StepD.by [] rfl rfl rfl rfl trivial (OpOk.one true [] [hR [.int .i64 y0, .int .i64 y1, .int .i64 y2]] rfl r2 ?_)
              exact AtD.weak (hd32 (b7, b8)) ⟨rfl, rfl, rfl, rfl, rfl, rfl, rfl, rfl, rfl, rfl, rfl, rfl, trivial⟩
          refine AtD.cut (ι := Nat) 7 #[true, false, true, true, false, false, true, true, true, true, false, true, false, false, false] (fun b7 => [(1, .pointer (some ⟨bq, 0, none⟩)), (6, .int .i64 i), (79, .pointer (some ⟨bq, 1, none⟩)), (81, .int .i64 i), (82, .int .i64 ((i : Int) - 1)), (85, .pointer (some ⟨bq, 1, none⟩)), (86, .slice (some ⟨g, o, none⟩) b.S.length c2), (87, .int .i64 i), (88, .pointer (some ⟨g, o + (i : Int).toNat * 3, none⟩)), (7, .pointer (some ⟨b7, 0, none⟩))]) (fun b7 => [(b7, 51, i64s [0, 0, 0]), (bq, 27, bkV b ⟨a1, some ⟨g, o, none⟩, a3, a4, c1, c2, c3, c4⟩)]) ?_ (fun hd34 => ?_)
          · rintro b7
            refine AtD.fork [1, 10, 12] (by kernel_rfl) (by simp) (fun i hi => ?_)
            simp only [List.mem_cons, List.not_mem_nil, or_false] at hi
            rcases hi with rfl | rfl | rfl
            · refine StepD.by [] rfl rfl rfl rfl trivial (OpOk.one true [] [hB 1] rfl rfl ?_)
              refine AtD.pures (ob := True) true (by kernel_rfl) [4] (fuel := 5) (by kernel_rfl) rfl (by (repeat' apply And.intro) <;> first | exact True.intro | omega | (simp only [inK]; omega) | (simp; done) | (simp; omega) | exact decide_eq_true (by omega) | exact decide_eq_false (by omega) | rfl | (simp [Value.oneCell']; done) | exact i64s_one _ | exact AggOk.mk (by kernel_rfl) (by kernel_rfl)) ?_
              exact AtD.weak (hd23 (b7)) ⟨rfl, rfl, rfl, rfl, rfl, rfl, rfl, rfl, rfl, rfl, rfl, rfl, trivial⟩
            · refine StepD.by [] rfl rfl rfl rfl trivial (OpOk.one true [] [hR [.int .i64 y0, .int .i64 y1, .int .i64 y2]] rfl r2 ?_)
              exact AtD.weak (hd31 (b7)) ⟨rfl, rfl, rfl, rfl, rfl, rfl, rfl, rfl, rfl, rfl, rfl, trivial⟩
            · refine StepD.by [] rfl rfl rfl rfl trivial (OpOk.alloc (cs := i64s [0, 0, 0]) rfl (by kernel_rfl) fun b8 hb8 => ?_)
              refine AtD.perm (List.Perm.swap _ _ _) ?_
              exact AtD.weak (hd35 (b7, b8)) ⟨rfl, rfl, rfl, rfl, rfl, rfl, rfl, rfl, rfl, rfl, rfl, trivial⟩
          refine AtD.cut (ι := Nat) 7 #[true, false, true, true, false, false, true, true, true, true, false, false, true, false, false] (fun b8 => [(1, .pointer (some ⟨bq, 0, none⟩)), (6, .int .i64 i), (79, .pointer (some ⟨bq, 1, none⟩)), (81, .int .i64 i), (82, .int .i64 ((i : Int) - 1)), (85, .pointer (some ⟨bq, 1, none⟩)), (86, .slice (some ⟨g, o, none⟩) b.S.length c2), (87, .int .i64 i), (88, .pointer (some ⟨g, o + (i : Int).toNat * 3, none⟩)), (8, .pointer (some ⟨b8, 0, none⟩))]) (fun b8 => [(b8, 51, i64s [0, 0, 0]), (bq, 27, bkV b ⟨a1, some ⟨g, o, none⟩, a3, a4, c1, c2, c3, c4⟩)]) ?_ (fun hd36 => ?_)
          · rintro b8
            refine AtD.fork [1, 10, 11] (by kernel_rfl) (by simp) (fun i hi => ?_)
            simp only [List.mem_cons, List.not_mem_nil, or_false] at hi
            rcases hi with rfl | rfl | rfl
            · refine StepD.by [] rfl rfl rfl rfl trivial (OpOk.one true [] [hB 1] rfl rfl ?_)
              refine AtD.pures (ob := True) true (by kernel_rfl) [4] (fuel := 5) (by kernel_rfl) rfl (by (repeat' apply And.intro) <;> first | exact True.intro | omega | (simp only [inK]; omega) | (simp; done) | (simp; omega) | exact decide_eq_true (by omega) | exact decide_eq_false (by omega) | rfl | (simp [Value.oneCell']; done) | exact i64s_one _ | exact AggOk.mk (by kernel_rfl) (by kernel_rfl)) ?_
              exact AtD.weak (hd25 (b8)) ⟨rfl, rfl, rfl, rfl, rfl, rfl, rfl, rfl, rfl, rfl, rfl, rfl, trivial⟩
            · refine StepD.by [] rfl rfl rfl rfl trivial (OpOk.one true [] [hR [.int .i64 y0, .int .i64 y1, .int .i64 y2]] rfl r2 ?_)
              exact AtD.weak (hd33 (b8)) ⟨rfl, rfl, rfl, rfl, rfl, rfl, rfl, rfl, rfl, rfl, rfl, trivial⟩
            · refine StepD.by [] rfl rfl rfl rfl trivial (OpOk.alloc (cs := i64s [0, 0, 0]) rfl (by kernel_rfl) fun b7 hb7 => ?_)
              exact AtD.weak (hd35 (b7, b8)) ⟨rfl, rfl, rfl, rfl, rfl, rfl, rfl, rfl, rfl, rfl, rfl, trivial⟩
          refine AtD.cut (ι := Unit) 8 #[true, false, true, true, false, false, true, true, true, true, false, false, false, false, false] (fun _ => [(1, .pointer (some ⟨bq, 0, none⟩)), (6, .int .i64 i), (79, .pointer (some ⟨bq, 1, none⟩)), (81, .int .i64 i), (82, .int .i64 ((i : Int) - 1)), (85, .pointer (some ⟨bq, 1, none⟩)), (86, .slice (some ⟨g, o, none⟩) b.S.length c2), (87, .int .i64 i), (88, .pointer (some ⟨g, o + (i : Int).toNat * 3, none⟩))]) (fun _ => [(bq, 27, bkV b ⟨a1, some ⟨g, o, none⟩, a3, a4, c1, c2, c3, c4⟩)]) ?_ (fun hd29 => ?_)
          · rintro ⟨⟩
            refine AtD.fork [1, 10, 11, 12] (by kernel_rfl) (by simp) (fun i hi => ?_)
            simp only [List.mem_cons, List.not_mem_nil, or_false] at hi
            rcases hi with rfl | rfl | rfl | rfl
            · refine StepD.by [] rfl rfl rfl rfl trivial (OpOk.one true [] [hB 0] rfl rfl ?_)
              refine AtD.pures (ob := True) true (by kernel_rfl) [4] (fuel := 6) (by kernel_rfl) rfl (by (repeat' apply And.intro) <;> first | exact True.intro | omega | (simp only [inK]; omega) | (simp; done) | (simp; omega) | exact decide_eq_true (by omega) | exact decide_eq_false (by omega) | rfl | (simp [Value.oneCell']; done) | exact i64s_one _ | exact AggOk.mk (by kernel_rfl) (by kernel_rfl)) ?_
              exact AtD.weak (hd18 ()) ⟨rfl, rfl, rfl, rfl, rfl, rfl, rfl, rfl, rfl, rfl, rfl, trivial⟩
            · refine StepD.by [] rfl rfl rfl rfl trivial (OpOk.one true [] [hR [.int .i64 y0, .int .i64 y1, .int .i64 y2]] rfl r2 ?_)
              exact AtD.weak (hd30 ()) ⟨rfl, rfl, rfl, rfl, rfl, rfl, rfl, rfl, rfl, rfl, trivial⟩
            · refine StepD.by [] rfl rfl rfl rfl trivial (OpOk.alloc (cs := i64s [0, 0, 0]) rfl (by kernel_rfl) fun b7 hb7 => ?_)
              exact AtD.weak (hd34 (b7)) ⟨rfl, rfl, rfl, rfl, rfl, rfl, rfl, rfl, rfl, rfl, trivial⟩
            · refine StepD.by [] rfl rfl rfl rfl trivial (OpOk.alloc (cs := i64s [0, 0, 0]) rfl (by kernel_rfl) fun b8 hb8 => ?_)
              exact AtD.weak (hd36 (b8)) ⟨rfl, rfl, rfl, rfl, rfl, rfl, rfl, rfl, rfl, rfl, trivial⟩
          refine AtD.cut (ι := Nat × Nat) 8 #[true, false, true, true, false, false, true, false, true, false, false, true, true, false, false] (fun ⟨b7, b8⟩ => [(1, .pointer (some ⟨bq, 0, none⟩)), (6, .int .i64 i), (79, .pointer (some ⟨bq, 1, none⟩)), (81, .int .i64 i), (82, .int .i64 ((i : Int) - 1)), (85, .pointer (some ⟨bq, 1, none⟩)), (87, .int .i64 i), (7, .pointer (some ⟨b7, 0, none⟩)), (8, .pointer (some ⟨b8, 0, none⟩))]) (fun ⟨b7, b8⟩ => [(b7, 51, i64s [0, 0, 0]), (b8, 51, i64s [0, 0, 0]), (bq, 27, bkV b ⟨a1, some ⟨g, o, none⟩, a3, a4, c1, c2, c3, c4⟩)]) ?_ (fun hd38 => ?_)
          · rintro ⟨b7, b8⟩
            refine AtD.fork [1, 7] (by kernel_rfl) (by simp) (fun i hi => ?_)
            simp only [List.mem_cons, List.not_mem_nil, or_false] at hi
            rcases hi with rfl | rfl
            · refine StepD.by [] rfl rfl rfl rfl trivial (OpOk.one true [] [hB 2] rfl rfl ?_)
              refine AtD.pures (ob := True) true (by kernel_rfl) [4] (fuel := 6) (by kernel_rfl) rfl (by (repeat' apply And.intro) <;> first | exact True.intro | omega | (simp only [inK]; omega) | (simp; done) | (simp; omega) | exact decide_eq_true (by omega) | exact decide_eq_false (by omega) | rfl | (simp [Value.oneCell']; done) | exact i64s_one _ | exact AggOk.mk (by kernel_rfl) (by kernel_rfl)) ?_
              exact AtD.weak (hd27 (b7, b8)) ⟨rfl, rfl, rfl, rfl, rfl, rfl, rfl, rfl, rfl, rfl, rfl, trivial⟩
            · refine StepD.by [] rfl rfl rfl rfl trivial (OpOk.one true [] [hB 2] rfl rfl ?_)
              refine AtD.pures (ob := True) true (by kernel_rfl) [9] (fuel := 6) (by kernel_rfl) rfl (by (repeat' apply And.intro) <;> first | exact True.intro | omega | (simp only [inK]; omega) | (simp; done) | (simp; omega) | exact decide_eq_true (by omega) | exact decide_eq_false (by omega) | rfl | (simp [Value.oneCell']; done) | exact i64s_one _ | exact AggOk.mk (by kernel_rfl) (by kernel_rfl)) ?_
              exact AtD.weak (hd35 (b7, b8)) ⟨rfl, rfl, rfl, rfl, rfl, rfl, rfl, rfl, rfl, rfl, rfl, trivial⟩
          refine AtD.cut (ι := Nat) 9 #[true, false, true, true, false, false, true, false, true, false, false, true, false, false, false] (fun b7 => [(1, .pointer (some ⟨bq, 0, none⟩)), (6, .int .i64 i), (79, .pointer (some ⟨bq, 1, none⟩)), (81, .int .i64 i), (82, .int .i64 ((i : Int) - 1)), (85, .pointer (some ⟨bq, 1, none⟩)), (87, .int .i64 i), (7, .pointer (some ⟨b7, 0, none⟩))]) (fun b7 => [(b7, 51, i64s [0, 0, 0]), (bq, 27, bkV b ⟨a1, some ⟨g, o, none⟩, a3, a4, c1, c2, c3, c4⟩)]) ?_ (fun hd37 => ?_)
          · rintro b7
            refine AtD.fork [1, 7, 12] (by kernel_rfl) (by simp) (fun i hi => ?_)
            simp only [List.mem_cons, List.not_mem_nil, or_false] at hi
            rcases hi with rfl | rfl | rfl
            · refine StepD.by [] rfl rfl rfl rfl trivial (OpOk.one true [] [hB 1] rfl rfl ?_)
              refine AtD.pures (ob := True) true (by kernel_rfl) [4] (fuel := 7) (by kernel_rfl) rfl (by (repeat' apply And.intro) <;> first | exact True.intro | omega | (simp only [inK]; omega) | (simp; done) | (simp; omega) | exact decide_eq_true (by omega) | exact decide_eq_false (by omega) | rfl | (simp [Value.oneCell']; done) | exact i64s_one _ | exact AggOk.mk (by kernel_rfl) (by kernel_rfl)) ?_
              exact AtD.weak (hd26 (b7)) ⟨rfl, rfl, rfl, rfl, rfl, rfl, rfl, rfl, rfl, rfl, trivial⟩
            · refine StepD.by [] rfl rfl rfl rfl trivial (OpOk.one true [] [hB 1] rfl rfl ?_)
              refine AtD.pures (ob := True) true (by kernel_rfl) [9] (fuel := 7) (by kernel_rfl) rfl (by (repeat' apply And.intro) <;> first | exact True.intro | omega | (simp only [inK]; omega) | (simp; done) | (simp; omega) | exact decide_eq_true (by omega) | exact decide_eq_false (by omega) | rfl | (simp [Value.oneCell']; done) | exact i64s_one _ | exact AggOk.mk (by kernel_rfl) (by kernel_rfl)) ?_
              exact AtD.weak (hd34 (b7)) ⟨rfl, rfl, rfl, rfl, rfl, rfl, rfl, rfl, rfl, rfl, trivial⟩
            · refine StepD.by [] rfl rfl rfl rfl trivial (OpOk.alloc (cs := i64s [0, 0, 0]) rfl (by kernel_rfl) fun b8 hb8 => ?_)
              refine AtD.perm (List.Perm.swap _ _ _) ?_
              exact AtD.weak (hd38 (b7, b8)) ⟨rfl, rfl, rfl, rfl, rfl, rfl, rfl, rfl, rfl, trivial⟩
          refine AtD.cut (ι := Nat) 9 #[true, false, true, true, false, false, true, false, true, false, false, false, true, false, false] (fun b8 => [(1, .pointer (some ⟨bq, 0, none⟩)), (6, .int .i64 i), (79, .pointer (some ⟨bq, 1, none⟩)), (81, .int .i64 i), (82, .int .i64 ((i : Int) - 1)), (85, .pointer (some ⟨bq, 1, none⟩)), (87, .int .i64 i), (8, .pointer (some ⟨b8, 0, none⟩))]) (fun b8 => [(b8, 51, i64s [0, 0, 0]), (bq, 27, bkV b ⟨a1, some ⟨g, o, none⟩, a3, a4, c1, c2, c3, c4⟩)]) ?_ (fun hd39 => ?_)
          · rintro b8
            refine AtD.fork [1, 7, 11] (by kernel_rfl) (by simp) (fun i hi => ?_)
            simp only [List.mem_cons, List.not_mem_nil, or_false] at hi
            rcases hi with rfl | rfl | rfl
            · refine StepD.by [] rfl rfl rfl rfl trivial (OpOk.one true [] [hB 1] rfl rfl ?_)
              refine AtD.pures (ob := True) true (by kernel_rfl) [4] (fuel := 7) (by kernel_rfl) rfl (by (repeat' apply And.intro) <;> first | exact True.intro | omega | (simp only [inK]; omega) | (simp; done) | (simp; omega) | exact decide_eq_true (by omega) | exact decide_eq_false (by omega) | rfl | (simp [Value.oneCell']; done) | exact i64s_one _ | exact AggOk.mk (by kernel_rfl) (by kernel_rfl)) ?_
              exact AtD.weak (hd28 (b8)) ⟨rfl, rfl, rfl, rfl, rfl, rfl, rfl, rfl, rfl, rfl, trivial⟩
            · refine StepD.by [] rfl rfl rfl rfl trivial (OpOk.one true [] [hB 1] rfl rfl ?_)
              refine AtD.pures (ob := True) true (by kernel_rfl) [9] (fuel := 7) (by kernel_rfl) rfl (by (repeat' apply And.intro) <;> first | exact True.intro | omega | (simp only [inK]; omega) | (simp; done) | (simp; omega) | exact decide_eq_true (by omega) | exact decide_eq_false (by omega) | rfl | (simp [Value.oneCell']; done) | exact i64s_one _ | exact AggOk.mk (by kernel_rfl) (by kernel_rfl)) ?_
              exact AtD.weak (hd36 (b8)) ⟨rfl, rfl, rfl, rfl, rfl, rfl, rfl, rfl, rfl, rfl, trivial⟩
            · refine StepD.by [] rfl rfl rfl rfl trivial (OpOk.alloc (cs := i64s [0, 0, 0]) rfl (by kernel_rfl) fun b7 hb7 => ?_)
              exact AtD.weak (hd38 (b7, b8)) ⟨rfl, rfl, rfl, rfl, rfl, rfl, rfl, rfl, rfl, trivial⟩
          refine AtD.cut (ι := Unit) 10 #[true, false, true, true, false, false, true, false, true, false, false, false, false, false, false] (fun _ => [(1, .pointer (some ⟨bq, 0, none⟩)), (6, .int .i64 i), (79, .pointer (some ⟨bq, 1, none⟩)), (81, .int .i64 i), (82, .int .i64 ((i : Int) - 1)), (85, .pointer (some ⟨bq, 1, none⟩)), (87, .int .i64 i)]) (fun _ => [(bq, 27, bkV b ⟨a1, some ⟨g, o, none⟩, a3, a4, c1, c2, c3, c4⟩)]) ?_ (fun hd0 => ?_)
          · rintro ⟨⟩
            refine AtD.fork [1, 7, 11, 12] (by kernel_rfl) (by simp) (fun i hi => ?_)
            simp only [List.mem_cons, List.not_mem_nil, or_false] at hi
            rcases hi with rfl | rfl | rfl | rfl
            · refine StepD.by [] rfl rfl rfl rfl trivial (OpOk.one true [] [hB 0] rfl rfl ?_)
              refine AtD.pures (ob := True) true (by kernel_rfl) [4] (fuel := 8) (by kernel_rfl) rfl (by (repeat' apply And.intro) <;> first | exact True.intro | omega | (simp only [inK]; omega) | (simp; done) | (simp; omega) | exact decide_eq_true (by omega) | exact decide_eq_false (by omega) | rfl | (simp [Value.oneCell']; done) | exact i64s_one _ | exact AggOk.mk (by kernel_rfl) (by kernel_rfl)) ?_
              exact AtD.weak (hd1 ()) ⟨rfl, rfl, rfl, rfl, rfl, rfl, rfl, rfl, rfl, trivial⟩
            · refine StepD.by [] rfl rfl rfl rfl trivial (OpOk.one true [] [hB 0] rfl rfl ?_)
              refine AtD.pures (ob := True) true (by kernel_rfl) [9] (fuel := 8) (by kernel_rfl) rfl (by (repeat' apply And.intro) <;> first | exact True.intro | omega | (simp only [inK]; omega) | (simp; done) | (simp; omega) | exact decide_eq_true (by omega) | exact decide_eq_false (by omega) | rfl | (simp [Value.oneCell']; done) | exact i64s_one _ | exact AggOk.mk (by kernel_rfl) (by kernel_rfl)) ?_
              exact AtD.weak (hd29 ()) ⟨rfl, rfl, rfl, rfl, rfl, rfl, rfl, rfl, rfl, trivial⟩
            · refine StepD.by [] rfl rfl rfl rfl trivial (OpOk.alloc (cs := i64s [0, 0, 0]) rfl (by kernel_rfl) fun b7 hb7 => ?_)
              exact AtD.weak (hd37 (b7)) ⟨rfl, rfl, rfl, rfl, rfl, rfl, rfl, rfl, trivial⟩
            · refine StepD.by [] rfl rfl rfl rfl trivial (OpOk.alloc (cs := i64s [0, 0, 0]) rfl (by kernel_rfl) fun b8 hb8 => ?_)
              exact AtD.weak (hd39 (b8)) ⟨rfl, rfl, rfl, rfl, rfl, rfl, rfl, rfl, trivial⟩
          refine AtD.pures (ob := True) true (by kernel_rfl) [0, 2, 3, 6, 8] (fuel := 10) (by kernel_rfl) rfl (by (repeat' apply And.intro) <;> first | exact True.intro | omega | (simp only [inK]; omega) | (simp; done) | (simp; omega) | exact decide_eq_true (by omega) | exact decide_eq_false (by omega) | rfl | (simp [Value.oneCell']; done) | exact i64s_one _ | exact AggOk.mk (by kernel_rfl) (by kernel_rfl)) ?_
          exact AtD.weak (hd0 ()) ⟨rfl, rfl, rfl, rfl, rfl, rfl, rfl, trivial⟩
        · refine At.run 100 true [false] [hB 0] rfl (by (repeat' apply And.intro) <;> first | exact True.intro | omega | (simp only [inK]; omega) | (simp; done) | (simp; omega) | exact decide_eq_true (by omega) | exact decide_eq_false (by omega) | rfl | (simp [Value.oneCell']; done) | exact i64s_one _ | exact AggOk.mk (by kernel_rfl) (by kernel_rfl)) ?_
          have hrS := ris_ok hall (by omega)
          clear ih hall
          refine At.run 100 true [] [] rfl trivial ?_
          exact At.retK [] [] [] rfl rfl Tryz.func24 rfl trivial ⟨by rw [hrH, hrO, hrR, hrS]; rfl, rfl, rfl⟩

end Go.Proofs

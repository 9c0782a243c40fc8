/-
  Walks of layer 12: lists searched.
-/
import Derived.Test.YtfpoclhenokhhaaGreatW20
namespace Go.Proofs
open Go Go.Eng
set_option maxRecDepth 100000
set_option maxHeartbeats 4000000
attribute [local irreducible] Tri

theorem slNe {l : List (List Int)} {i sz : Nat} {x : List Int} (hsz : 0 < sz) (hl : ∀ x, x ∈ l → x.length = sz) (hx : l[i]? = some x) : l.flatMap i64s ≠ [] := by
  intro e
  have hm := List.mem_of_getElem? hx
  have := hl x hm
  have h1 := flat_rec_len hl
  rw [e] at h1
  have hlt := (List.getElem?_eq_some_iff.1 hx).1
  simp only [List.length_nil] at h1
  have := Nat.mul_pos (by omega : 0 < l.length) hsz
  omega
theorem any_take {p : List Int → Bool} {l : List (List Int)} {i : Nat} {x : List Int} (hx : l[i]? = some x) (h : (l.take i).any p = false) (hp : p x = false) : (l.take (i + 1)).any p = false := by
  have e : l.take (i + 1) = l.take i ++ [x] := by rw [List.take_add_one, hx]; rfl
  rw [e, List.any_append, h]; simp [hp]
theorem any_mem {p : List Int → Bool} {l : List (List Int)} {i : Nat} {x : List Int} (hx : l[i]? = some x) (hp : p x = true) : l.any p = true := List.any_eq_true.2 ⟨x, List.mem_of_getElem? hx, hp⟩
/-- The first place where it holds. -/
def idxI (p : List Int → Bool) (l : List (List Int)) : Int := if l.any p then (l.findIdx p : Int) else -1
theorem idxI_no {p : List Int → Bool} {l : List (List Int)} (h : l.any p = false) : idxI p l = -1 := by unfold idxI; rw [h]; rfl
theorem idxI_ge {p : List Int → Bool} {l : List (List Int)} : decide (0 ≤ idxI p l) = l.any p := by
  unfold idxI
  cases l.any p
  · rfl
  · exact decide_eq_true (by simp only [if_true]; omega)
theorem idxI_hit {p : List Int → Bool} {l : List (List Int)} {i : Nat} {x : List Int} (hx : l[i]? = some x) (hno : (l.take i).any p = false) (hp : p x = true) : idxI p l = i := by
  unfold idxI
  rw [any_mem hx hp, if_pos rfl]
  obtain ⟨v, hv⟩ : ∃ v, l.findIdx p = v := ⟨_, rfl⟩
  obtain ⟨hil, hie⟩ := List.getElem?_eq_some_iff.1 hx
  have hlt : v < l.length := by rw [← hv]; exact List.findIdx_lt_length_of_exists ⟨x, List.mem_of_getElem? hx, hp⟩
  have h1 : v ≤ i := by
    rw [← hv]; apply Nat.le_of_not_lt; intro hlt2
    have := List.not_of_lt_findIdx hlt2
    rw [hie, hp] at this; cases this
  have h2 : ¬ v < i := by
    intro hvi
    have hpv : p l[v] = true := by
      have := @List.findIdx_getElem _ p l (by rw [hv]; exact hlt)
      simpa only [hv] using this
    have : (l.take i).any p = true := List.any_eq_true.2 ⟨l[v], by rw [List.mem_take_iff_getElem]; exact ⟨v, by omega, rfl⟩, hpv⟩
    rw [hno] at this; cases this
  rw [hv]; omega
theorem half (i j : Nat) (h : i < j) : (i + j) / 2 < j ∧ i ≤ (i + j) / 2 := by omega
theorem shr1 (n : Nat) : (n : Int) / 2 ^ min (Int.toNat 1) IntKind.u64.bits = ((n / 2 : Nat) : Int) := by
  have : min (Int.toNat 1) IntKind.u64.bits = 1 := by decide
  rw [this]; omega

theorem Tryz.indexHolder_w (l : List (List Int)) (a : Option Addr) (cap F : Nat) (ca : List Value) (p : List Int → Bool) (w : World) (hl : ∀ x, x ∈ l → x.length = 4) (hlen : l.length ≤ 1048576) (hrow : SlOk w a (l.flatMap i64s))
    (hf : ∀ x, x ∈ l → ∀ w', Ext [] w w' → Fun Tryz.prog F ([.agg ⟨i64s x⟩] ++ ca) w' (.bool (p x))) :
    Fun Tryz.prog 107 [.slice a l.length cap, .func (.func F) ⟨[]⟩ ⟨ca⟩] w (.int .i64 (idxI p l)) := by
  refine Tri.enter (bx := []) (hp := []) Tryz.func107 rfl (by kernel_rfl) rfl (Own.nil w) ?_
  refine At.run 100 true [] [] rfl trivial ?_
  refine At.loop (n := l.length) (env0 := [(0, .slice a l.length cap), (1, .func (.func F) ⟨[]⟩ ⟨ca⟩), (7, .int .i64 l.length), (8, .int .i64 0)]) (fun m env bx hp => ∃ i : Nat, m = l.length - i ∧ i ≤ l.length ∧ (l.take i).any p = false ∧
    env = [(0, .slice a l.length cap), (1, .func (.func F) ⟨[]⟩ ⟨ca⟩), (7, .int .i64 l.length), (8, .int .i64 i)] ∧ bx = [] ∧ hp = []) rfl ⟨0, by simp, by omega, by simp, rfl, rfl, rfl⟩ ⟨rfl, rfl, rfl, rfl, trivial⟩ ?_
  rintro m env bx hp ⟨i, rfl, hi, hno, rfl, rfl, rfl⟩ ih
  by_cases hlt : i < l.length
  · obtain ⟨x, hx⟩ : ∃ x, l[i]? = some x := ⟨_, List.getElem?_eq_getElem hlt⟩
    have hmem := List.mem_of_getElem? hx
    obtain ⟨g, o, rfl, hc⟩ := hrow.get (slNe (by decide) hl hx)
    have r1 : ∀ {bx : Bx} {hp : List Seg}, RdW ⟨w, kys [] []⟩ bx hp g (o + (i : Int).toNat * 4) (i64s x) := fun {_ _} => RdW.rec hl hc (by simp [kys]) hx (by omega)
    have hcall : ∀ w', Ext [] w w' → Fun Tryz.prog F ([.agg ⟨i64s x⟩] ++ ca) w' (.bool (p x)) := fun w' he => hf x hmem w' he
    have hv3 := @idxI_hit p l i x hx hno
    have hno' := fun h => any_take (p := p) hx hno h
    obtain ⟨x0, x1, x2, x3, rfl⟩ := len4 (hl x hmem)
    have hcb : ∀ {bx : Bx} {hp : List Seg}, CallOb Tryz.prog ⟨w, kys [] []⟩ bx hp F (allArgs [] [.agg ⟨[.int .i64 x0, .int .i64 x1, .int .i64 x2, .int .i64 x3]⟩] ca) (.bool (p [x0, x1, x2, x3])) := fun {_ _} w' hw' => by rw [allArgs_eq]; exact hcall w' hw'.ext
    cases hp : p [x0, x1, x2, x3] with
    | true =>
      rw [hp] at hcb
      refine At.run 100 true [true, true] [hR [.int .i64 x0, .int .i64 x1, .int .i64 x2, .int .i64 x3], hC (.bool true)] rfl (by (repeat' apply And.intro) <;> first | exact r1 | exact hcb | exact True.intro | omega | rfl | (simp only [inK]; omega) | exact decide_eq_true (by omega) | exact decide_eq_false (by omega) | (simp; done) | (simp; omega) | (simp [Value.oneCell']; done) | exact i64s_one _ | exact AggOk.mk (by kernel_rfl) (by kernel_rfl)) ?_
      exact At.ret [] rfl Tryz.func107 rfl trivial ⟨by rw [hv3 hp]; rfl, rfl, rfl⟩
    | false =>
      rw [hp] at hcb
      refine At.run 100 true [true, false] [hR [.int .i64 x0, .int .i64 x1, .int .i64 x2, .int .i64 x3], hC (.bool false)] rfl (by (repeat' apply And.intro) <;> first | exact r1 | exact hcb | exact True.intro | omega | rfl | (simp only [inK]; omega) | exact decide_eq_true (by omega) | exact decide_eq_false (by omega) | (simp; done) | (simp; omega) | (simp [Value.oneCell']; done) | exact i64s_one _ | exact AggOk.mk (by kernel_rfl) (by kernel_rfl)) ?_
      refine At.weak (ih (l.length - (i + 1)) _ _ _ (by omega) ⟨i + 1, rfl, by omega, hno' hp, rfl, rfl, rfl⟩) ⟨rfl, rfl, rfl, some_int_eq (by omega), trivial⟩
  · have : i = l.length := by omega
    subst this
    rw [List.take_length] at hno
    refine At.run 100 true [false] [] rfl (by (repeat' apply And.intro) <;> first | exact True.intro | omega | (simp only [inK]; omega) | (simp; done) | (simp; omega) | exact decide_eq_true (by omega) | exact decide_eq_false (by omega) | rfl | (simp [Value.oneCell']; done) | exact i64s_one _ | exact AggOk.mk (by kernel_rfl) (by kernel_rfl)) ?_
    exact At.ret [] rfl Tryz.func107 rfl trivial ⟨by rw [idxI_no hno]; rfl, rfl, rfl⟩

theorem Tryz.containsHolder_w (l : List (List Int)) (a : Option Addr) (cap F : Nat) (ca : List Value) (p : List Int → Bool) (w : World) (hl : ∀ x, x ∈ l → x.length = 4) (hlen : l.length ≤ 1048576) (hrow : SlOk w a (l.flatMap i64s))
    (hf : ∀ x, x ∈ l → ∀ w', Ext [] w w' → Fun Tryz.prog F ([.agg ⟨i64s x⟩] ++ ca) w' (.bool (p x))) :
    Fun Tryz.prog 48 [.slice a l.length cap, .func (.func F) ⟨[]⟩ ⟨ca⟩] w (.bool (l.any p)) := by
  refine Tri.enter (bx := []) (hp := []) Tryz.func48 rfl (by kernel_rfl) rfl (Own.nil w) ?_
  refine At.run 100 true [] [hC (.int .i64 (idxI p l))] rfl (by (repeat' apply And.intro) <;> first | exact fun w' hw' => Tryz.indexHolder_w l a cap F ca p w' hl hlen (hrow.ext hw'.ext (by simp [kys])) (fun x hx w2 he => hf x hx w2 (hw'.ext.trans he)) | exact True.intro | omega | rfl | (simp only [inK]; omega) | exact decide_eq_true (by omega) | exact decide_eq_false (by omega) | (simp; done) | (simp; omega) | (simp [Value.oneCell']; done) | exact i64s_one _ | exact AggOk.mk (by kernel_rfl) (by kernel_rfl)) ?_
  exact At.ret [] rfl Tryz.func48 rfl trivial ⟨by rw [← idxI_ge]; rfl, rfl, rfl⟩

theorem Tryz.indexStake_w (l : List (List Int)) (a : Option Addr) (cap F : Nat) (ca : List Value) (p : List Int → Bool) (w : World) (hl : ∀ x, x ∈ l → x.length = 3) (hlen : l.length ≤ 1048576) (hrow : SlOk w a (l.flatMap i64s))
    (hf : ∀ x, x ∈ l → ∀ w', Ext [] w w' → Fun Tryz.prog F ([.agg ⟨i64s x⟩] ++ ca) w' (.bool (p x))) :
    Fun Tryz.prog 109 [.slice a l.length cap, .func (.func F) ⟨[]⟩ ⟨ca⟩] w (.int .i64 (idxI p l)) := by
  refine Tri.enter (bx := []) (hp := []) Tryz.func109 rfl (by kernel_rfl) rfl (Own.nil w) ?_
  refine At.run 100 true [] [] rfl trivial ?_
  refine At.loop (n := l.length) (env0 := [(0, .slice a l.length cap), (1, .func (.func F) ⟨[]⟩ ⟨ca⟩), (7, .int .i64 l.length), (8, .int .i64 0)]) (fun m env bx hp => ∃ i : Nat, m = l.length - i ∧ i ≤ l.length ∧ (l.take i).any p = false ∧
    env = [(0, .slice a l.length cap), (1, .func (.func F) ⟨[]⟩ ⟨ca⟩), (7, .int .i64 l.length), (8, .int .i64 i)] ∧ bx = [] ∧ hp = []) rfl ⟨0, by simp, by omega, by simp, rfl, rfl, rfl⟩ ⟨rfl, rfl, rfl, rfl, trivial⟩ ?_
  rintro m env bx hp ⟨i, rfl, hi, hno, rfl, rfl, rfl⟩ ih
  by_cases hlt : i < l.length
  · obtain ⟨x, hx⟩ : ∃ x, l[i]? = some x := ⟨_, List.getElem?_eq_getElem hlt⟩
    have hmem := List.mem_of_getElem? hx
    obtain ⟨g, o, rfl, hc⟩ := hrow.get (slNe (by decide) hl hx)
    have r1 : ∀ {bx : Bx} {hp : List Seg}, RdW ⟨w, kys [] []⟩ bx hp g (o + (i : Int).toNat * 3) (i64s x) := fun {_ _} => RdW.rec hl hc (by simp [kys]) hx (by omega)
    have hcall : ∀ w', Ext [] w w' → Fun Tryz.prog F ([.agg ⟨i64s x⟩] ++ ca) w' (.bool (p x)) := fun w' he => hf x hmem w' he
    have hv3 := @idxI_hit p l i x hx hno
    have hno' := fun h => any_take (p := p) hx hno h
    obtain ⟨x0, x1, x2, rfl⟩ := len3 (hl x hmem)
    have hcb : ∀ {bx : Bx} {hp : List Seg}, CallOb Tryz.prog ⟨w, kys [] []⟩ bx hp F (allArgs [] [.agg ⟨[.int .i64 x0, .int .i64 x1, .int .i64 x2]⟩] ca) (.bool (p [x0, x1, x2])) := fun {_ _} w' hw' => by rw [allArgs_eq]; exact hcall w' hw'.ext
    cases hp : p [x0, x1, x2] with
    | true =>
      rw [hp] at hcb
      refine At.run 100 true [true, true] [hR [.int .i64 x0, .int .i64 x1, .int .i64 x2], hC (.bool true)] rfl (by (repeat' apply And.intro) <;> first | exact r1 | exact hcb | exact True.intro | omega | rfl | (simp only [inK]; omega) | exact decide_eq_true (by omega) | exact decide_eq_false (by omega) | (simp; done) | (simp; omega) | (simp [Value.oneCell']; done) | exact i64s_one _ | exact AggOk.mk (by kernel_rfl) (by kernel_rfl)) ?_
      exact At.ret [] rfl Tryz.func109 rfl trivial ⟨by rw [hv3 hp]; rfl, rfl, rfl⟩
    | false =>
      rw [hp] at hcb
      refine At.run 100 true [true, false] [hR [.int .i64 x0, .int .i64 x1, .int .i64 x2], hC (.bool false)] rfl (by (repeat' apply And.intro) <;> first | exact r1 | exact hcb | exact True.intro | omega | rfl | (simp only [inK]; omega) | exact decide_eq_true (by omega) | exact decide_eq_false (by omega) | (simp; done) | (simp; omega) | (simp [Value.oneCell']; done) | exact i64s_one _ | exact AggOk.mk (by kernel_rfl) (by kernel_rfl)) ?_
      refine At.weak (ih (l.length - (i + 1)) _ _ _ (by omega) ⟨i + 1, rfl, by omega, hno' hp, rfl, rfl, rfl⟩) ⟨rfl, rfl, rfl, some_int_eq (by omega), trivial⟩
  · have : i = l.length := by omega
    subst this
    rw [List.take_length] at hno
    refine At.run 100 true [false] [] rfl (by (repeat' apply And.intro) <;> first | exact True.intro | omega | (simp only [inK]; omega) | (simp; done) | (simp; omega) | exact decide_eq_true (by omega) | exact decide_eq_false (by omega) | rfl | (simp [Value.oneCell']; done) | exact i64s_one _ | exact AggOk.mk (by kernel_rfl) (by kernel_rfl)) ?_
    exact At.ret [] rfl Tryz.func109 rfl trivial ⟨by rw [idxI_no hno]; rfl, rfl, rfl⟩

theorem Tryz.containsStake_w (l : List (List Int)) (a : Option Addr) (cap F : Nat) (ca : List Value) (p : List Int → Bool) (w : World) (hl : ∀ x, x ∈ l → x.length = 3) (hlen : l.length ≤ 1048576) (hrow : SlOk w a (l.flatMap i64s))
    (hf : ∀ x, x ∈ l → ∀ w', Ext [] w w' → Fun Tryz.prog F ([.agg ⟨i64s x⟩] ++ ca) w' (.bool (p x))) :
    Fun Tryz.prog 50 [.slice a l.length cap, .func (.func F) ⟨[]⟩ ⟨ca⟩] w (.bool (l.any p)) := by
  refine Tri.enter (bx := []) (hp := []) Tryz.func50 rfl (by kernel_rfl) rfl (Own.nil w) ?_
  refine At.run 100 true [] [hC (.int .i64 (idxI p l))] rfl (by (repeat' apply And.intro) <;> first | exact fun w' hw' => Tryz.indexStake_w l a cap F ca p w' hl hlen (hrow.ext hw'.ext (by simp [kys])) (fun x hx w2 he => hf x hx w2 (hw'.ext.trans he)) | exact True.intro | omega | rfl | (simp only [inK]; omega) | exact decide_eq_true (by omega) | exact decide_eq_false (by omega) | (simp; done) | (simp; omega) | (simp [Value.oneCell']; done) | exact i64s_one _ | exact AggOk.mk (by kernel_rfl) (by kernel_rfl)) ?_
  exact At.ret [] rfl Tryz.func50 rfl trivial ⟨by rw [← idxI_ge]; rfl, rfl, rfl⟩

theorem Tryz.indexOpen_w (l : List (List Int)) (a : Option Addr) (cap F : Nat) (ca : List Value) (p : List Int → Bool) (w : World) (hl : ∀ x, x ∈ l → x.length = 6) (hlen : l.length ≤ 1048576) (hrow : SlOk w a (l.flatMap i64s))
    (hf : ∀ x, x ∈ l → ∀ w', Ext [] w w' → Fun Tryz.prog F ([.agg ⟨i64s x⟩] ++ ca) w' (.bool (p x))) :
    Fun Tryz.prog 110 [.slice a l.length cap, .func (.func F) ⟨[]⟩ ⟨ca⟩] w (.int .i64 (idxI p l)) := by
  refine Tri.enter (bx := []) (hp := []) Tryz.func110 rfl (by kernel_rfl) rfl (Own.nil w) ?_
  refine At.run 100 true [] [] rfl trivial ?_
  refine At.loop (n := l.length) (env0 := [(0, .slice a l.length cap), (1, .func (.func F) ⟨[]⟩ ⟨ca⟩), (7, .int .i64 l.length), (8, .int .i64 0)]) (fun m env bx hp => ∃ i : Nat, m = l.length - i ∧ i ≤ l.length ∧ (l.take i).any p = false ∧
    env = [(0, .slice a l.length cap), (1, .func (.func F) ⟨[]⟩ ⟨ca⟩), (7, .int .i64 l.length), (8, .int .i64 i)] ∧ bx = [] ∧ hp = []) rfl ⟨0, by simp, by omega, by simp, rfl, rfl, rfl⟩ ⟨rfl, rfl, rfl, rfl, trivial⟩ ?_
  rintro m env bx hp ⟨i, rfl, hi, hno, rfl, rfl, rfl⟩ ih
  by_cases hlt : i < l.length
  · obtain ⟨x, hx⟩ : ∃ x, l[i]? = some x := ⟨_, List.getElem?_eq_getElem hlt⟩
    have hmem := List.mem_of_getElem? hx
    obtain ⟨g, o, rfl, hc⟩ := hrow.get (slNe (by decide) hl hx)
    have r1 : ∀ {bx : Bx} {hp : List Seg}, RdW ⟨w, kys [] []⟩ bx hp g (o + (i : Int).toNat * 6) (i64s x) := fun {_ _} => RdW.rec hl hc (by simp [kys]) hx (by omega)
    have hcall : ∀ w', Ext [] w w' → Fun Tryz.prog F ([.agg ⟨i64s x⟩] ++ ca) w' (.bool (p x)) := fun w' he => hf x hmem w' he
    have hv3 := @idxI_hit p l i x hx hno
    have hno' := fun h => any_take (p := p) hx hno h
    obtain ⟨x0, x1, x2, x3, x4, x5, rfl⟩ := len6 (hl x hmem)
    have hcb : ∀ {bx : Bx} {hp : List Seg}, CallOb Tryz.prog ⟨w, kys [] []⟩ bx hp F (allArgs [] [.agg ⟨[.int .i64 x0, .int .i64 x1, .int .i64 x2, .int .i64 x3, .int .i64 x4, .int .i64 x5]⟩] ca) (.bool (p [x0, x1, x2, x3, x4, x5])) := fun {_ _} w' hw' => by rw [allArgs_eq]; exact hcall w' hw'.ext
    cases hp : p [x0, x1, x2, x3, x4, x5] with
    | true =>
      rw [hp] at hcb
      refine At.run 100 true [true, true] [hR [.int .i64 x0, .int .i64 x1, .int .i64 x2, .int .i64 x3, .int .i64 x4, .int .i64 x5], hC (.bool true)] rfl (by (repeat' apply And.intro) <;> first | exact r1 | exact hcb | exact True.intro | omega | rfl | (simp only [inK]; omega) | exact decide_eq_true (by omega) | exact decide_eq_false (by omega) | (simp; done) | (simp; omega) | (simp [Value.oneCell']; done) | exact i64s_one _ | exact AggOk.mk (by kernel_rfl) (by kernel_rfl)) ?_
      exact At.ret [] rfl Tryz.func110 rfl trivial ⟨by rw [hv3 hp]; rfl, rfl, rfl⟩
    | false =>
      rw [hp] at hcb
      refine At.run 100 true [true, false] [hR [.int .i64 x0, .int .i64 x1, .int .i64 x2, .int .i64 x3, .int .i64 x4, .int .i64 x5], hC (.bool false)] rfl (by (repeat' apply And.intro) <;> first | exact r1 | exact hcb | exact True.intro | omega | rfl | (simp only [inK]; omega) | exact decide_eq_true (by omega) | exact decide_eq_false (by omega) | (simp; done) | (simp; omega) | (simp [Value.oneCell']; done) | exact i64s_one _ | exact AggOk.mk (by kernel_rfl) (by kernel_rfl)) ?_
      refine At.weak (ih (l.length - (i + 1)) _ _ _ (by omega) ⟨i + 1, rfl, by omega, hno' hp, rfl, rfl, rfl⟩) ⟨rfl, rfl, rfl, some_int_eq (by omega), trivial⟩
  · have : i = l.length := by omega
    subst this
    rw [List.take_length] at hno
    refine At.run 100 true [false] [] rfl (by (repeat' apply And.intro) <;> first | exact True.intro | omega | (simp only [inK]; omega) | (simp; done) | (simp; omega) | exact decide_eq_true (by omega) | exact decide_eq_false (by omega) | rfl | (simp [Value.oneCell']; done) | exact i64s_one _ | exact AggOk.mk (by kernel_rfl) (by kernel_rfl)) ?_
    exact At.ret [] rfl Tryz.func110 rfl trivial ⟨by rw [idxI_no hno]; rfl, rfl, rfl⟩

theorem Tryz.containsOpen_w (l : List (List Int)) (a : Option Addr) (cap F : Nat) (ca : List Value) (p : List Int → Bool) (w : World) (hl : ∀ x, x ∈ l → x.length = 6) (hlen : l.length ≤ 1048576) (hrow : SlOk w a (l.flatMap i64s))
    (hf : ∀ x, x ∈ l → ∀ w', Ext [] w w' → Fun Tryz.prog F ([.agg ⟨i64s x⟩] ++ ca) w' (.bool (p x))) :
    Fun Tryz.prog 51 [.slice a l.length cap, .func (.func F) ⟨[]⟩ ⟨ca⟩] w (.bool (l.any p)) := by
  refine Tri.enter (bx := []) (hp := []) Tryz.func51 rfl (by kernel_rfl) rfl (Own.nil w) ?_
  refine At.run 100 true [] [hC (.int .i64 (idxI p l))] rfl (by (repeat' apply And.intro) <;> first | exact fun w' hw' => Tryz.indexOpen_w l a cap F ca p w' hl hlen (hrow.ext hw'.ext (by simp [kys])) (fun x hx w2 he => hf x hx w2 (hw'.ext.trans he)) | exact True.intro | omega | rfl | (simp only [inK]; omega) | exact decide_eq_true (by omega) | exact decide_eq_false (by omega) | (simp; done) | (simp; omega) | (simp [Value.oneCell']; done) | exact i64s_one _ | exact AggOk.mk (by kernel_rfl) (by kernel_rfl)) ?_
  exact At.ret [] rfl Tryz.func51 rfl trivial ⟨by rw [← idxI_ge]; rfl, rfl, rfl⟩

theorem Tryz.indexRate_w (l : List (List Int)) (a : Option Addr) (cap F : Nat) (ca : List Value) (p : List Int → Bool) (w : World) (hl : ∀ x, x ∈ l → x.length = 2) (hlen : l.length ≤ 1048576) (hrow : SlOk w a (l.flatMap i64s))
    (hf : ∀ x, x ∈ l → ∀ w', Ext [] w w' → Fun Tryz.prog F ([.agg ⟨i64s x⟩] ++ ca) w' (.bool (p x))) :
    Fun Tryz.prog 108 [.slice a l.length cap, .func (.func F) ⟨[]⟩ ⟨ca⟩] w (.int .i64 (idxI p l)) := by
  refine Tri.enter (bx := []) (hp := []) Tryz.func108 rfl (by kernel_rfl) rfl (Own.nil w) ?_
  refine At.run 100 true [] [] rfl trivial ?_
  refine At.loop (n := l.length) (env0 := [(0, .slice a l.length cap), (1, .func (.func F) ⟨[]⟩ ⟨ca⟩), (7, .int .i64 l.length), (8, .int .i64 0)]) (fun m env bx hp => ∃ i : Nat, m = l.length - i ∧ i ≤ l.length ∧ (l.take i).any p = false ∧
    env = [(0, .slice a l.length cap), (1, .func (.func F) ⟨[]⟩ ⟨ca⟩), (7, .int .i64 l.length), (8, .int .i64 i)] ∧ bx = [] ∧ hp = []) rfl ⟨0, by simp, by omega, by simp, rfl, rfl, rfl⟩ ⟨rfl, rfl, rfl, rfl, trivial⟩ ?_
  rintro m env bx hp ⟨i, rfl, hi, hno, rfl, rfl, rfl⟩ ih
  by_cases hlt : i < l.length
  · obtain ⟨x, hx⟩ : ∃ x, l[i]? = some x := ⟨_, List.getElem?_eq_getElem hlt⟩
    have hmem := List.mem_of_getElem? hx
    obtain ⟨g, o, rfl, hc⟩ := hrow.get (slNe (by decide) hl hx)
    have r1 : ∀ {bx : Bx} {hp : List Seg}, RdW ⟨w, kys [] []⟩ bx hp g (o + (i : Int).toNat * 2) (i64s x) := fun {_ _} => RdW.rec hl hc (by simp [kys]) hx (by omega)
    have hcall : ∀ w', Ext [] w w' → Fun Tryz.prog F ([.agg ⟨i64s x⟩] ++ ca) w' (.bool (p x)) := fun w' he => hf x hmem w' he
    have hv3 := @idxI_hit p l i x hx hno
    have hno' := fun h => any_take (p := p) hx hno h
    obtain ⟨x0, x1, rfl⟩ := len2 (hl x hmem)
    have hcb : ∀ {bx : Bx} {hp : List Seg}, CallOb Tryz.prog ⟨w, kys [] []⟩ bx hp F (allArgs [] [.agg ⟨[.int .i64 x0, .int .i64 x1]⟩] ca) (.bool (p [x0, x1])) := fun {_ _} w' hw' => by rw [allArgs_eq]; exact hcall w' hw'.ext
    cases hp : p [x0, x1] with
    | true =>
      rw [hp] at hcb
      refine At.run 100 true [true, true] [hR [.int .i64 x0, .int .i64 x1], hC (.bool true)] rfl (by (repeat' apply And.intro) <;> first | exact r1 | exact hcb | exact True.intro | omega | rfl | (simp only [inK]; omega) | exact decide_eq_true (by omega) | exact decide_eq_false (by omega) | (simp; done) | (simp; omega) | (simp [Value.oneCell']; done) | exact i64s_one _ | exact AggOk.mk (by kernel_rfl) (by kernel_rfl)) ?_
      exact At.ret [] rfl Tryz.func108 rfl trivial ⟨by rw [hv3 hp]; rfl, rfl, rfl⟩
    | false =>
      rw [hp] at hcb
      refine At.run 100 true [true, false] [hR [.int .i64 x0, .int .i64 x1], hC (.bool false)] rfl (by (repeat' apply And.intro) <;> first | exact r1 | exact hcb | exact True.intro | omega | rfl | (simp only [inK]; omega) | exact decide_eq_true (by omega) | exact decide_eq_false (by omega) | (simp; done) | (simp; omega) | (simp [Value.oneCell']; done) | exact i64s_one _ | exact AggOk.mk (by kernel_rfl) (by kernel_rfl)) ?_
      refine At.weak (ih (l.length - (i + 1)) _ _ _ (by omega) ⟨i + 1, rfl, by omega, hno' hp, rfl, rfl, rfl⟩) ⟨rfl, rfl, rfl, some_int_eq (by omega), trivial⟩
  · have : i = l.length := by omega
    subst this
    rw [List.take_length] at hno
    refine At.run 100 true [false] [] rfl (by (repeat' apply And.intro) <;> first | exact True.intro | omega | (simp only [inK]; omega) | (simp; done) | (simp; omega) | exact decide_eq_true (by omega) | exact decide_eq_false (by omega) | rfl | (simp [Value.oneCell']; done) | exact i64s_one _ | exact AggOk.mk (by kernel_rfl) (by kernel_rfl)) ?_
    exact At.ret [] rfl Tryz.func108 rfl trivial ⟨by rw [idxI_no hno]; rfl, rfl, rfl⟩

theorem Tryz.containsRate_w (l : List (List Int)) (a : Option Addr) (cap F : Nat) (ca : List Value) (p : List Int → Bool) (w : World) (hl : ∀ x, x ∈ l → x.length = 2) (hlen : l.length ≤ 1048576) (hrow : SlOk w a (l.flatMap i64s))
    (hf : ∀ x, x ∈ l → ∀ w', Ext [] w w' → Fun Tryz.prog F ([.agg ⟨i64s x⟩] ++ ca) w' (.bool (p x))) :
    Fun Tryz.prog 49 [.slice a l.length cap, .func (.func F) ⟨[]⟩ ⟨ca⟩] w (.bool (l.any p)) := by
  refine Tri.enter (bx := []) (hp := []) Tryz.func49 rfl (by kernel_rfl) rfl (Own.nil w) ?_
  refine At.run 100 true [] [hC (.int .i64 (idxI p l))] rfl (by (repeat' apply And.intro) <;> first | exact fun w' hw' => Tryz.indexRate_w l a cap F ca p w' hl hlen (hrow.ext hw'.ext (by simp [kys])) (fun x hx w2 he => hf x hx w2 (hw'.ext.trans he)) | exact True.intro | omega | rfl | (simp only [inK]; omega) | exact decide_eq_true (by omega) | exact decide_eq_false (by omega) | (simp; done) | (simp; omega) | (simp [Value.oneCell']; done) | exact i64s_one _ | exact AggOk.mk (by kernel_rfl) (by kernel_rfl)) ?_
  exact At.ret [] rfl Tryz.func49 rfl trivial ⟨by rw [← idxI_ge]; rfl, rfl, rfl⟩

theorem Tryz.searchHolder_w (l : List (List Int)) (a : Option Addr) (cap : Nat) (k : Int) (w : World) (hl : ∀ x, x ∈ l → x.length = 4) (hlen : l.length ≤ 1048576) (hrow : SlOk w a (l.flatMap i64s)) (hris : ris lt1 l = true) :
    Fun Tryz.prog 120 [.slice a l.length cap, .int .i64 k, .func (.func 95) ⟨[]⟩ ⟨[]⟩] w (.tuple #[.int .i64 (bsI l k), .bool (bsF l k)]) := by
  refine Tri.enter (bx := []) (hp := []) Tryz.func120 rfl (by kernel_rfl) rfl (Own.nil w) ?_
  refine At.run 100 true [] [] rfl trivial ?_
  refine At.loop (n := l.length) (env0 := [(0, .slice a l.length cap), (1, .int .i64 k), (2, .func (.func 95) ⟨[]⟩ ⟨[]⟩), (8, .int .i64 l.length), (9, .int .i64 0), (10, .int .i64 l.length)])
    (fun m env bx hp => ∃ i j : Nat, m = j - i ∧ i ≤ j ∧ j ≤ l.length ∧ (∀ t x, t < i → l[t]? = some x → k0 x < k) ∧ (∀ x, l[j]? = some x → k ≤ k0 x) ∧
      env = [(0, .slice a l.length cap), (1, .int .i64 k), (2, .func (.func 95) ⟨[]⟩ ⟨[]⟩), (8, .int .i64 l.length), (9, .int .i64 i), (10, .int .i64 j)] ∧ bx = [] ∧ hp = []) rfl
    ⟨0, l.length, by simp, by omega, by omega, fun t x h => by omega, fun x hx => by simp at hx, rfl, rfl, rfl⟩ ⟨rfl, rfl, rfl, rfl, rfl, rfl, trivial⟩ ?_
  rintro m env bx hp ⟨i, j, rfl, hij, hj, h1, h2, rfl, rfl, rfl⟩ ih
  by_cases hlt : i < j
  · obtain ⟨h, hh⟩ : ∃ h, (i + j) / 2 = h := ⟨_, rfl⟩
    have hs : ((i : Int) + (j : Int)) / 2 ^ min (Int.toNat 1) IntKind.u64.bits = (h : Int) := by rw [← hh]; have := shr1 (i + j); rw [Int.natCast_add] at this; exact this
    have hhj : i ≤ h ∧ h < j := by omega
    have hs2 : inK .i64 (h : Int) := by simp only [inK]; omega
    obtain ⟨x, hx⟩ : ∃ x, l[h]? = some x := ⟨_, List.getElem?_eq_getElem (by omega)⟩
    have hmem := List.mem_of_getElem? hx
    obtain ⟨g, o, rfl, hc⟩ := hrow.get (slNe (by decide) hl hx)
    refine At.run 100 true [true] [] rfl (by (repeat' apply And.intro) <;> first | rw [hs]; exact hs2 | rw [hs]; omega | exact True.intro | omega | rfl | (simp only [inK]; omega) | exact decide_eq_true (by omega) | exact decide_eq_false (by omega) | (simp; done) | (simp; omega) | (simp [Value.oneCell']; done) | exact i64s_one _ | exact AggOk.mk (by kernel_rfl) (by kernel_rfl)) ?_
    rw [hs]
    have r1 : ∀ {bx : Bx} {hp : List Seg}, RdW ⟨w, kys [] []⟩ bx hp g (o + (h : Int).toNat * 4) (i64s x) := fun {_ _} => RdW.rec hl hc (by simp [kys]) hx (by omega)
    have hmono := fun (t : Nat) (y : List Int) (ht : t < h) (hy : l[t]? = some y) => ris_mono hris (h - (t + 1)) t y x hy (by rw [show t + 1 + (h - (t + 1)) = h by omega]; exact hx)
    by_cases hlt2 : k0 x < k
    · have hd : decide (cmp1 x k < 0) = true := decide_eq_true (cmpI_lt.2 hlt2)
      have hnext : ∀ t y, t < h + 1 → l[t]? = some y → k0 y < k := by
        intro t y ht hy
        by_cases hth : t = h
        · subst hth; rw [hx] at hy; cases hy; exact hlt2
        · have := hmono t y (by omega) hy; omega
      clear hmono
      obtain ⟨x0, x1, x2, x3, rfl⟩ := len4 (hl x hmem)
      refine At.run 100 true [true] [hR [.int .i64 x0, .int .i64 x1, .int .i64 x2, .int .i64 x3], hC (.int .i64 (cmp1 [x0, x1, x2, x3] k))] rfl (by (repeat' apply And.intro) <;> first | exact r1 | exact hd | exact fun w' _ => Tryz.byHolder_w .. | exact True.intro | omega | rfl | (simp only [inK]; omega) | exact decide_eq_true (by omega) | exact decide_eq_false (by omega) | (simp; done) | (simp; omega) | (simp [Value.oneCell']; done) | exact i64s_one _ | exact AggOk.mk (by kernel_rfl) (by kernel_rfl)) ?_
      refine At.weak (ih (j - (h + 1)) _ _ _ (by omega) ⟨h + 1, j, rfl, by omega, hj, hnext, h2, rfl, rfl, rfl⟩) ⟨rfl, rfl, rfl, rfl, some_int_eq (by omega), rfl, trivial⟩
    · have hd : decide (cmp1 x k < 0) = false := decide_eq_false (fun e => hlt2 (cmpI_lt.1 e))
      have hnext : ∀ y, l[h]? = some y → k ≤ k0 y := by
        intro y hy; rw [hx] at hy; cases hy; omega
      clear hmono
      obtain ⟨x0, x1, x2, x3, rfl⟩ := len4 (hl x hmem)
      refine At.run 100 true [false] [hR [.int .i64 x0, .int .i64 x1, .int .i64 x2, .int .i64 x3], hC (.int .i64 (cmp1 [x0, x1, x2, x3] k))] rfl (by (repeat' apply And.intro) <;> first | exact r1 | exact hd | exact fun w' _ => Tryz.byHolder_w .. | exact True.intro | omega | rfl | (simp only [inK]; omega) | exact decide_eq_true (by omega) | exact decide_eq_false (by omega) | (simp; done) | (simp; omega) | (simp [Value.oneCell']; done) | exact i64s_one _ | exact AggOk.mk (by kernel_rfl) (by kernel_rfl)) ?_
      refine At.weak (ih (h - i) _ _ _ (by omega) ⟨i, h, rfl, by omega, by omega, h1, hnext, rfl, rfl, rfl⟩) ⟨rfl, rfl, rfl, rfl, rfl, rfl, trivial⟩
  · have : i = j := by omega
    subst this
    have hI := bsI_eq h1 h2 hj
    by_cases hn : i < l.length
    · obtain ⟨x, hx⟩ : ∃ x, l[i]? = some x := ⟨_, List.getElem?_eq_getElem hn⟩
      have hmem := List.mem_of_getElem? hx
      obtain ⟨g, o, rfl, hc⟩ := hrow.get (slNe (by decide) hl hx)
      have r1 : ∀ {bx : Bx} {hp : List Seg}, RdW ⟨w, kys [] []⟩ bx hp g (o + (i : Int).toNat * 4) (i64s x) := fun {_ _} => RdW.rec hl hc (by simp [kys]) hx (by omega)
      have hF : bsF l k = decide (cmp1 x k = 0) := by unfold bsF; rw [hI, hx]; exact decide_eq_decide.2 cmpI_eq.symm
      rw [hF, hI]
      obtain ⟨x0, x1, x2, x3, rfl⟩ := len4 (hl x hmem)
      refine At.run 100 true [false, true] [hR [.int .i64 x0, .int .i64 x1, .int .i64 x2, .int .i64 x3], hC (.int .i64 (cmp1 [x0, x1, x2, x3] k))] rfl (by (repeat' apply And.intro) <;> first | exact r1 | exact fun w' _ => Tryz.byHolder_w .. | exact True.intro | omega | rfl | (simp only [inK]; omega) | exact decide_eq_true (by omega) | exact decide_eq_false (by omega) | (simp; done) | (simp; omega) | (simp [Value.oneCell']; done) | exact i64s_one _ | exact AggOk.mk (by kernel_rfl) (by kernel_rfl)) ?_
      exact At.ret [] rfl Tryz.func120 rfl trivial ⟨rfl, rfl, rfl⟩
    · have hF : bsF l k = false := by unfold bsF; rw [hI, List.getElem?_eq_none (by omega)]
      rw [hF, hI]
      refine At.run 100 true [false, false] [] rfl (by (repeat' apply And.intro) <;> first | exact True.intro | omega | (simp only [inK]; omega) | (simp; done) | (simp; omega) | exact decide_eq_true (by omega) | exact decide_eq_false (by omega) | rfl | (simp [Value.oneCell']; done) | exact i64s_one _ | exact AggOk.mk (by kernel_rfl) (by kernel_rfl)) ?_
      exact At.ret [] rfl Tryz.func120 rfl trivial ⟨rfl, rfl, rfl⟩

theorem Tryz.searchRate_w (l : List (List Int)) (a : Option Addr) (cap : Nat) (k : Int) (w : World) (hl : ∀ x, x ∈ l → x.length = 2) (hlen : l.length ≤ 1048576) (hrow : SlOk w a (l.flatMap i64s)) (hris : ris lt1 l = true) :
    Fun Tryz.prog 121 [.slice a l.length cap, .int .i64 k, .func (.func 101) ⟨[]⟩ ⟨[]⟩] w (.tuple #[.int .i64 (bsI l k), .bool (bsF l k)]) := by
  refine Tri.enter (bx := []) (hp := []) Tryz.func121 rfl (by kernel_rfl) rfl (Own.nil w) ?_
  refine At.run 100 true [] [] rfl trivial ?_
  refine At.loop (n := l.length) (env0 := [(0, .slice a l.length cap), (1, .int .i64 k), (2, .func (.func 101) ⟨[]⟩ ⟨[]⟩), (8, .int .i64 l.length), (9, .int .i64 0), (10, .int .i64 l.length)])
    (fun m env bx hp => ∃ i j : Nat, m = j - i ∧ i ≤ j ∧ j ≤ l.length ∧ (∀ t x, t < i → l[t]? = some x → k0 x < k) ∧ (∀ x, l[j]? = some x → k ≤ k0 x) ∧
      env = [(0, .slice a l.length cap), (1, .int .i64 k), (2, .func (.func 101) ⟨[]⟩ ⟨[]⟩), (8, .int .i64 l.length), (9, .int .i64 i), (10, .int .i64 j)] ∧ bx = [] ∧ hp = []) rfl
    ⟨0, l.length, by simp, by omega, by omega, fun t x h => by omega, fun x hx => by simp at hx, rfl, rfl, rfl⟩ ⟨rfl, rfl, rfl, rfl, rfl, rfl, trivial⟩ ?_
  rintro m env bx hp ⟨i, j, rfl, hij, hj, h1, h2, rfl, rfl, rfl⟩ ih
  by_cases hlt : i < j
  · obtain ⟨h, hh⟩ : ∃ h, (i + j) / 2 = h := ⟨_, rfl⟩
    have hs : ((i : Int) + (j : Int)) / 2 ^ min (Int.toNat 1) IntKind.u64.bits = (h : Int) := by rw [← hh]; have := shr1 (i + j); rw [Int.natCast_add] at this; exact this
    have hhj : i ≤ h ∧ h < j := by omega
    have hs2 : inK .i64 (h : Int) := by simp only [inK]; omega
    obtain ⟨x, hx⟩ : ∃ x, l[h]? = some x := ⟨_, List.getElem?_eq_getElem (by omega)⟩
    have hmem := List.mem_of_getElem? hx
    obtain ⟨g, o, rfl, hc⟩ := hrow.get (slNe (by decide) hl hx)
    refine At.run 100 true [true] [] rfl (by (repeat' apply And.intro) <;> first | rw [hs]; exact hs2 | rw [hs]; omega | exact True.intro | omega | rfl | (simp only [inK]; omega) | exact decide_eq_true (by omega) | exact decide_eq_false (by omega) | (simp; done) | (simp; omega) | (simp [Value.oneCell']; done) | exact i64s_one _ | exact AggOk.mk (by kernel_rfl) (by kernel_rfl)) ?_
    rw [hs]
    have r1 : ∀ {bx : Bx} {hp : List Seg}, RdW ⟨w, kys [] []⟩ bx hp g (o + (h : Int).toNat * 2) (i64s x) := fun {_ _} => RdW.rec hl hc (by simp [kys]) hx (by omega)
    have hmono := fun (t : Nat) (y : List Int) (ht : t < h) (hy : l[t]? = some y) => ris_mono hris (h - (t + 1)) t y x hy (by rw [show t + 1 + (h - (t + 1)) = h by omega]; exact hx)
    by_cases hlt2 : k0 x < k
    · have hd : decide (cmp1 x k < 0) = true := decide_eq_true (cmpI_lt.2 hlt2)
      have hnext : ∀ t y, t < h + 1 → l[t]? = some y → k0 y < k := by
        intro t y ht hy
        by_cases hth : t = h
        · subst hth; rw [hx] at hy; cases hy; exact hlt2
        · have := hmono t y (by omega) hy; omega
      clear hmono
      obtain ⟨x0, x1, rfl⟩ := len2 (hl x hmem)
      refine At.run 100 true [true] [hR [.int .i64 x0, .int .i64 x1], hC (.int .i64 (cmp1 [x0, x1] k))] rfl (by (repeat' apply And.intro) <;> first | exact r1 | exact hd | exact fun w' _ => Tryz.byRate_w .. | exact True.intro | omega | rfl | (simp only [inK]; omega) | exact decide_eq_true (by omega) | exact decide_eq_false (by omega) | (simp; done) | (simp; omega) | (simp [Value.oneCell']; done) | exact i64s_one _ | exact AggOk.mk (by kernel_rfl) (by kernel_rfl)) ?_
      refine At.weak (ih (j - (h + 1)) _ _ _ (by omega) ⟨h + 1, j, rfl, by omega, hj, hnext, h2, rfl, rfl, rfl⟩) ⟨rfl, rfl, rfl, rfl, some_int_eq (by omega), rfl, trivial⟩
    · have hd : decide (cmp1 x k < 0) = false := decide_eq_false (fun e => hlt2 (cmpI_lt.1 e))
      have hnext : ∀ y, l[h]? = some y → k ≤ k0 y := by
        intro y hy; rw [hx] at hy; cases hy; omega
      clear hmono
      obtain ⟨x0, x1, rfl⟩ := len2 (hl x hmem)
      refine At.run 100 true [false] [hR [.int .i64 x0, .int .i64 x1], hC (.int .i64 (cmp1 [x0, x1] k))] rfl (by (repeat' apply And.intro) <;> first | exact r1 | exact hd | exact fun w' _ => Tryz.byRate_w .. | exact True.intro | omega | rfl | (simp only [inK]; omega) | exact decide_eq_true (by omega) | exact decide_eq_false (by omega) | (simp; done) | (simp; omega) | (simp [Value.oneCell']; done) | exact i64s_one _ | exact AggOk.mk (by kernel_rfl) (by kernel_rfl)) ?_
      refine At.weak (ih (h - i) _ _ _ (by omega) ⟨i, h, rfl, by omega, by omega, h1, hnext, rfl, rfl, rfl⟩) ⟨rfl, rfl, rfl, rfl, rfl, rfl, trivial⟩
  · have : i = j := by omega
    subst this
    have hI := bsI_eq h1 h2 hj
    by_cases hn : i < l.length
    · obtain ⟨x, hx⟩ : ∃ x, l[i]? = some x := ⟨_, List.getElem?_eq_getElem hn⟩
      have hmem := List.mem_of_getElem? hx
      obtain ⟨g, o, rfl, hc⟩ := hrow.get (slNe (by decide) hl hx)
      have r1 : ∀ {bx : Bx} {hp : List Seg}, RdW ⟨w, kys [] []⟩ bx hp g (o + (i : Int).toNat * 2) (i64s x) := fun {_ _} => RdW.rec hl hc (by simp [kys]) hx (by omega)
      have hF : bsF l k = decide (cmp1 x k = 0) := by unfold bsF; rw [hI, hx]; exact decide_eq_decide.2 cmpI_eq.symm
      rw [hF, hI]
      obtain ⟨x0, x1, rfl⟩ := len2 (hl x hmem)
      refine At.run 100 true [false, true] [hR [.int .i64 x0, .int .i64 x1], hC (.int .i64 (cmp1 [x0, x1] k))] rfl (by (repeat' apply And.intro) <;> first | exact r1 | exact fun w' _ => Tryz.byRate_w .. | exact True.intro | omega | rfl | (simp only [inK]; omega) | exact decide_eq_true (by omega) | exact decide_eq_false (by omega) | (simp; done) | (simp; omega) | (simp [Value.oneCell']; done) | exact i64s_one _ | exact AggOk.mk (by kernel_rfl) (by kernel_rfl)) ?_
      exact At.ret [] rfl Tryz.func121 rfl trivial ⟨rfl, rfl, rfl⟩
    · have hF : bsF l k = false := by unfold bsF; rw [hI, List.getElem?_eq_none (by omega)]
      rw [hF, hI]
      refine At.run 100 true [false, false] [] rfl (by (repeat' apply And.intro) <;> first | exact True.intro | omega | (simp only [inK]; omega) | (simp; done) | (simp; omega) | exact decide_eq_true (by omega) | exact decide_eq_false (by omega) | rfl | (simp [Value.oneCell']; done) | exact i64s_one _ | exact AggOk.mk (by kernel_rfl) (by kernel_rfl)) ?_
      exact At.ret [] rfl Tryz.func121 rfl trivial ⟨rfl, rfl, rfl⟩

end Go.Proofs

/-
  Walks of layer 14: a book's rows, yielded one by one.
-/
import Derived.Test.YtfpoclhenokhhaaDoorM9
import Derived.Test.YtfpoclhenokhhaaDoorM5
import Derived.Test.YtfpoclhenokhhaaDoorM13
import Derived.Test.YtfpoclhenokhhaaDoorM12
/-
  Walks of layer 14: a book's rows, yielded one by one.
-/
namespace Go.Proofs
open Go Go.Eng
set_option maxRecDepth 100000
set_option maxHeartbeats 4000000
attribute [local irreducible] Tri

/-- A row that is yielded: its key, its values, and where they lie. -/
structure YE where
  k : K3T
  v : List Int
  b : Nat
def YE.row (x : YE) : RowB := (x.k, x.v)
def YE.enc (x : YE) : List Value := [key3 x.k, .slice (some ⟨x.b, 0, none⟩) x.v.length x.v.length]
def Tryd.yeB (x : YE) : Bx := [(x.b, 2, i64s x.v)]
theorem rows_pfx0 (b : Bk) (i : Nat) : (([] : List RowB) ++ (b.H.take i).map (r1 1)) <+: rowsB b := by
  have := pfx_take ([] : List RowB) b.H (r1 1) i (b.S.map r2 ++ (b.O.map (r1 3) ++ (b.R.map (r1 4) ++ [((5, 0, 0), [b.c])])))
  simpa only [rowsB, List.append_assoc, List.nil_append] using this
theorem rows_pfx1 (b : Bk) (i : Nat) : ((b.H.map (r1 1)) ++ (b.S.take i).map (r2)) <+: rowsB b := by
  have := pfx_take (b.H.map (r1 1)) b.S (r2) i (b.O.map (r1 3) ++ (b.R.map (r1 4) ++ [((5, 0, 0), [b.c])]))
  simpa only [rowsB, List.append_assoc, List.nil_append] using this
theorem rows_pfx2 (b : Bk) (i : Nat) : ((b.H.map (r1 1) ++ b.S.map r2) ++ (b.O.take i).map (r1 3)) <+: rowsB b := by
  have := pfx_take (b.H.map (r1 1) ++ b.S.map r2) b.O (r1 3) i (b.R.map (r1 4) ++ [((5, 0, 0), [b.c])])
  simpa only [rowsB, List.append_assoc, List.nil_append] using this
theorem rows_pfx3 (b : Bk) (i : Nat) : ((b.H.map (r1 1) ++ b.S.map r2 ++ b.O.map (r1 3)) ++ (b.R.take i).map (r1 4)) <+: rowsB b := by
  have := pfx_take (b.H.map (r1 1) ++ b.S.map r2 ++ b.O.map (r1 3)) b.R (r1 4) i [((5, 0, 0), [b.c])]
  simpa only [rowsB, List.append_assoc, List.nil_append] using this

theorem Tryd.rows1_w (b : Bk) (a1 a2 a3 a4 : Option Addr) (c1 c2 c3 c4 bb : Nat) (w : World) (hi : BkIn b) (ho : BkOk w b ⟨a1, a2, a3, a4, c1, c2, c3, c4⟩) :
    IterB Tryd.prog 81 [.pointer (some ⟨bb, 0, none⟩)] [(bb, 27, bkV b ⟨a1, a2, a3, a4, c1, c2, c3, c4⟩)] (slR a1 (b.H.flatMap i64s) ++ (slR a2 (b.S.flatMap i64s) ++ (slR a3 (b.O.flatMap i64s) ++ slR a4 (b.R.flatMap i64s)))) YE.enc Tryd.yeB (fun pre => pre.map YE.row <+: rowsB b) (fun xs => xs.map YE.row = rowsB b) w := by
  intro y s0 J hJ0 hown hfree hyield
  have ha1 : SlOk w a1 (b.H.flatMap i64s) := ho.h1
  have ha2 : SlOk w a2 (b.S.flatMap i64s) := ho.h2
  have ha3 : SlOk w a3 (b.O.flatMap i64s) := ho.h3
  have ha4 : SlOk w a4 (b.R.flatMap i64s) := ho.h4
  have l1 := hi.l1
  have l2 := hi.l2
  have l3 := hi.l3
  have l4 := hi.l4
  refine Tri.enter Tryd.func81 rfl (by kernel_rfl) rfl hown ?_
  refine At.run 100 true [] [hB 0] rfl (by (repeat' apply And.intro) <;> first | exact True.intro | omega | (simp only [inK]; omega) | (simp; done) | (simp; omega) | exact decide_eq_true (by omega) | exact decide_eq_false (by omega) | rfl | (simp [Value.oneCell']; done) | exact i64s_one _ | exact AggOk.mk (by kernel_rfl) (by kernel_rfl)) ?_
  refine At.loop (n := b.H.length) (env0 := [(0, .func (.yield y) #[] #[]), (1, .pointer (some ⟨bb, 0, none⟩)), (12, .slice a1 b.H.length c1), (13, .int .i64 b.H.length), (14, .int .i64 0)]) (fun m env bx hp => ∃ (i : Nat) (pre : List YE) (s : Seg), m = b.H.length - i ∧ i ≤ b.H.length ∧ pre.map YE.row = ([] : List RowB) ++ (b.H.take i).map (r1 1) ∧ J pre s ∧
    env = [(0, .func (.yield y) #[] #[]), (1, .pointer (some ⟨bb, 0, none⟩)), (12, .slice a1 b.H.length c1), (13, .int .i64 b.H.length), (14, .int .i64 i)] ∧ bx = [(bb, 27, bkV b ⟨a1, a2, a3, a4, c1, c2, c3, c4⟩)] ∧ hp = [s]) rfl ⟨0, [], s0, by simp, by omega, by simp, hJ0, rfl, rfl, rfl⟩ ⟨rfl, rfl, rfl, rfl, rfl, trivial⟩ ?_
  rintro m env bx hp ⟨i, pre, s, rfl, hi2, hpre, hJ, rfl, rfl, rfl⟩ ih
  by_cases hlt : i < b.H.length
  · obtain ⟨x, hx⟩ : ∃ x, b.H[i]? = some x := ⟨_, List.getElem?_eq_getElem hlt⟩
    obtain ⟨hxl, hxi⟩ := hi.r1 x (List.mem_of_getElem? hx)
    have hne : b.H.flatMap i64s ≠ [] := by
      intro h
      have h1 := flat_rec_len (sz := 4) (l := b.H) (fun x hx => (hi.r1 x hx).1)
      rw [h] at h1; simp only [List.length_nil] at h1; omega
    obtain ⟨g, o, rfl, hc⟩ := ha1.get hne
    have hmg : g ∉ (⟨w, kys [(bb, 27, bkV b ⟨some ⟨g, o, none⟩, a2, a3, a4, c1, c2, c3, c4⟩)] [s0]⟩ : Base).mods := hfree g (by exact List.mem_append_left _ (mem_slR hne))
    obtain ⟨x0, x1, x2, x3, rfl⟩ := len4 hxl
    have rE : ∀ {bx : Bx} {hp : List Seg}, RdW ⟨w, kys [(bb, 27, bkV b ⟨some ⟨g, o, none⟩, a2, a3, a4, c1, c2, c3, c4⟩)] [s0]⟩ bx hp g (o + (i : Int).toNat * 4) (i64s [x0, x1, x2, x3]) := fun {_ _} => RdW.sl hc hmg (i * 4) (by omega) (fun j u hu => flat_rec (fun x hx => (hi.r1 x hx).1) hx j u hu)
    refine At.run 100 true [true] [hR (i64s [x0, x1, x2, x3])] rfl (by (repeat' apply And.intro) <;> first | exact rE | exact True.intro | omega | rfl | (simp only [inK]; omega) | exact decide_eq_true (by omega) | exact decide_eq_false (by omega) | (simp; done) | (simp; omega) | (simp [Value.oneCell']; done) | exact i64s_one _ | exact AggOk.mk (by kernel_rfl) (by kernel_rfl)) ?_
    refine At.step [] rfl rfl rfl rfl rfl trivial (OpOk.alloc (cs := [.int .i64 0, .int .i64 0, .int .i64 0, .int .i64 0]) rfl (by kernel_rfl) fun b4 hb4 => ?_)
    refine At.run 100 true [] [hB 0, hB 0, hB 0, hB 0, hB 0] rfl (by (repeat' apply And.intro) <;> first | exact i64s_one _ | exact True.intro | omega | rfl | (simp only [inK]; omega) | exact decide_eq_true (by omega) | exact decide_eq_false (by omega) | (simp; done) | (simp; omega) | (simp [Value.oneCell']; done) | exact i64s_one _ | exact AggOk.mk (by kernel_rfl) (by kernel_rfl)) ?_
    refine At.step [] rfl rfl rfl rfl rfl trivial (OpOk.buildSlice rfl rfl rfl rfl rfl rfl rfl (fun bs hbs => ?_))
    have hnext : (pre ++ [(⟨(1, x0, 0), [x1, x2, x3], bs⟩ : YE)]).map YE.row = ([] : List RowB) ++ (b.H.take (i + 1)).map (r1 1) := by
      rw [List.map_append, hpre, List.take_add_one, hx, List.map_append, List.append_assoc]; rfl
    refine At.yield [] rfl rfl rfl rfl rfl trivial (lp := y) (args := YE.enc ⟨(1, x0, 0), [x1, x2, x3], bs⟩) rfl [true] [true] (bm := [(bs, 2, i64s [x1, x2, x3])]) (hm := [s]) (br := [(b4, 52, i64s [x0, x1, x2, x3]), (bb, 27, bkV b ⟨some ⟨g, o, none⟩, a2, a3, a4, c1, c2, c3, c4⟩)]) (hr := []) (Q := fun bx hp => bx = [] ∧ ∃ s', hp = [s'] ∧ J (pre ++ [(⟨(1, x0, 0), [x1, x2, x3], bs⟩ : YE)]) s') rfl
      (fun w' hw' => hyield pre ⟨(1, x0, 0), [x1, x2, x3], bs⟩ s w' (by show List.map YE.row _ <+: _; rw [hnext]; exact rows_pfx0 b (i + 1)) hJ (hw'.toOwn.sel [true] [true] rfl) hw'.ext) ?_
    rintro _ _ ⟨rfl, s', rfl, hJ'⟩
    refine At.run 100 true [false] [] rfl (by (repeat' apply And.intro) <;> first | exact True.intro | omega | (simp only [inK]; omega) | (simp; done) | (simp; omega) | exact decide_eq_true (by omega) | exact decide_eq_false (by omega) | rfl | (simp [Value.oneCell']; done) | exact i64s_one _ | exact AggOk.mk (by kernel_rfl) (by kernel_rfl)) ?_
    refine At.keep [false, true] [true] rfl ?_
    exact At.weak (ih _ _ _ _ (by omega) ⟨i + 1, _, s', rfl, by omega, hnext, hJ', rfl, rfl, rfl⟩) ⟨rfl, rfl, rfl, rfl, some_int_eq (by omega), trivial⟩
  have hie : b.H.take i = b.H := List.take_of_length_le (by omega)
  rw [hie] at hpre
  clear ih
  refine At.run 100 true [false] [hB 0] rfl (by (repeat' apply And.intro) <;> first | exact True.intro | omega | (simp only [inK]; omega) | (simp; done) | (simp; omega) | exact decide_eq_true (by omega) | exact decide_eq_false (by omega) | rfl | (simp [Value.oneCell']; done) | exact i64s_one _ | exact AggOk.mk (by kernel_rfl) (by kernel_rfl)) ?_
  refine At.loop (n := b.S.length) (env0 := [(0, .func (.yield y) #[] #[]), (1, .pointer (some ⟨bb, 0, none⟩)), (33, .slice a2 b.S.length c2), (34, .int .i64 b.S.length), (35, .int .i64 0)]) (fun m env bx hp => ∃ (i : Nat) (pre : List YE) (s : Seg), m = b.S.length - i ∧ i ≤ b.S.length ∧ pre.map YE.row = (b.H.map (r1 1)) ++ (b.S.take i).map (r2) ∧ J pre s ∧
    env = [(0, .func (.yield y) #[] #[]), (1, .pointer (some ⟨bb, 0, none⟩)), (33, .slice a2 b.S.length c2), (34, .int .i64 b.S.length), (35, .int .i64 i)] ∧ bx = [(bb, 27, bkV b ⟨a1, a2, a3, a4, c1, c2, c3, c4⟩)] ∧ hp = [s]) rfl ⟨0, pre, s, by simp, by omega, by rw [hpre]; simp, hJ, rfl, rfl, rfl⟩ ⟨rfl, rfl, rfl, rfl, rfl, trivial⟩ ?_
  clear hJ hpre
  clear pre s
  rintro m env bx hp ⟨i, pre, s, rfl, hi2, hpre, hJ, rfl, rfl, rfl⟩ ih
  by_cases hlt : i < b.S.length
  · obtain ⟨x, hx⟩ : ∃ x, b.S[i]? = some x := ⟨_, List.getElem?_eq_getElem hlt⟩
    obtain ⟨hxl, hxi⟩ := hi.r2 x (List.mem_of_getElem? hx)
    have hne : b.S.flatMap i64s ≠ [] := by
      intro h
      have h1 := flat_rec_len (sz := 3) (l := b.S) (fun x hx => (hi.r2 x hx).1)
      rw [h] at h1; simp only [List.length_nil] at h1; omega
    obtain ⟨g, o, rfl, hc⟩ := ha2.get hne
    have hmg : g ∉ (⟨w, kys [(bb, 27, bkV b ⟨a1, some ⟨g, o, none⟩, a3, a4, c1, c2, c3, c4⟩)] [s0]⟩ : Base).mods := hfree g (by exact List.mem_append_right _ (List.mem_append_left _ (mem_slR hne)))
    obtain ⟨x0, x1, x2, rfl⟩ := len3 hxl
    have rE : ∀ {bx : Bx} {hp : List Seg}, RdW ⟨w, kys [(bb, 27, bkV b ⟨a1, some ⟨g, o, none⟩, a3, a4, c1, c2, c3, c4⟩)] [s0]⟩ bx hp g (o + (i : Int).toNat * 3) (i64s [x0, x1, x2]) := fun {_ _} => RdW.sl hc hmg (i * 3) (by omega) (fun j u hu => flat_rec (fun x hx => (hi.r2 x hx).1) hx j u hu)
    refine At.run 100 true [true] [hR (i64s [x0, x1, x2])] rfl (by (repeat' apply And.intro) <;> first | exact rE | exact True.intro | omega | rfl | (simp only [inK]; omega) | exact decide_eq_true (by omega) | exact decide_eq_false (by omega) | (simp; done) | (simp; omega) | (simp [Value.oneCell']; done) | exact i64s_one _ | exact AggOk.mk (by kernel_rfl) (by kernel_rfl)) ?_
    refine At.step [] rfl rfl rfl rfl rfl trivial (OpOk.alloc (cs := [.int .i64 0, .int .i64 0, .int .i64 0]) rfl (by kernel_rfl) fun b4 hb4 => ?_)
    refine At.run 100 true [] [hB 0, hB 0, hB 0, hB 0] rfl (by (repeat' apply And.intro) <;> first | exact i64s_one _ | exact True.intro | omega | rfl | (simp only [inK]; omega) | exact decide_eq_true (by omega) | exact decide_eq_false (by omega) | (simp; done) | (simp; omega) | (simp [Value.oneCell']; done) | exact i64s_one _ | exact AggOk.mk (by kernel_rfl) (by kernel_rfl)) ?_
    refine At.step [] rfl rfl rfl rfl rfl trivial (OpOk.buildSlice rfl rfl rfl rfl rfl rfl rfl (fun bs hbs => ?_))
    have hnext : (pre ++ [(⟨(2, x0, x1), [x2], bs⟩ : YE)]).map YE.row = (b.H.map (r1 1)) ++ (b.S.take (i + 1)).map (r2) := by
      rw [List.map_append, hpre, List.take_add_one, hx, List.map_append, List.append_assoc]; rfl
    refine At.yield [] rfl rfl rfl rfl rfl trivial (lp := y) (args := YE.enc ⟨(2, x0, x1), [x2], bs⟩) rfl [true] [true] (bm := [(bs, 2, i64s [x2])]) (hm := [s]) (br := [(b4, 54, i64s [x0, x1, x2]), (bb, 27, bkV b ⟨a1, some ⟨g, o, none⟩, a3, a4, c1, c2, c3, c4⟩)]) (hr := []) (Q := fun bx hp => bx = [] ∧ ∃ s', hp = [s'] ∧ J (pre ++ [(⟨(2, x0, x1), [x2], bs⟩ : YE)]) s') rfl
      (fun w' hw' => hyield pre ⟨(2, x0, x1), [x2], bs⟩ s w' (by show List.map YE.row _ <+: _; rw [hnext]; exact rows_pfx1 b (i + 1)) hJ (hw'.toOwn.sel [true] [true] rfl) hw'.ext) ?_
    rintro _ _ ⟨rfl, s', rfl, hJ'⟩
    refine At.run 100 true [false] [] rfl (by (repeat' apply And.intro) <;> first | exact True.intro | omega | (simp only [inK]; omega) | (simp; done) | (simp; omega) | exact decide_eq_true (by omega) | exact decide_eq_false (by omega) | rfl | (simp [Value.oneCell']; done) | exact i64s_one _ | exact AggOk.mk (by kernel_rfl) (by kernel_rfl)) ?_
    refine At.keep [false, true] [true] rfl ?_
    exact At.weak (ih _ _ _ _ (by omega) ⟨i + 1, _, s', rfl, by omega, hnext, hJ', rfl, rfl, rfl⟩) ⟨rfl, rfl, rfl, rfl, some_int_eq (by omega), trivial⟩
  have hie : b.S.take i = b.S := List.take_of_length_le (by omega)
  rw [hie] at hpre
  clear ih
  refine At.run 100 true [false] [hB 0] rfl (by (repeat' apply And.intro) <;> first | exact True.intro | omega | (simp only [inK]; omega) | (simp; done) | (simp; omega) | exact decide_eq_true (by omega) | exact decide_eq_false (by omega) | rfl | (simp [Value.oneCell']; done) | exact i64s_one _ | exact AggOk.mk (by kernel_rfl) (by kernel_rfl)) ?_
  refine At.loop (n := b.O.length) (env0 := [(0, .func (.yield y) #[] #[]), (1, .pointer (some ⟨bb, 0, none⟩)), (52, .slice a3 b.O.length c3), (53, .int .i64 b.O.length), (54, .int .i64 0)]) (fun m env bx hp => ∃ (i : Nat) (pre : List YE) (s : Seg), m = b.O.length - i ∧ i ≤ b.O.length ∧ pre.map YE.row = (b.H.map (r1 1) ++ b.S.map r2) ++ (b.O.take i).map (r1 3) ∧ J pre s ∧
    env = [(0, .func (.yield y) #[] #[]), (1, .pointer (some ⟨bb, 0, none⟩)), (52, .slice a3 b.O.length c3), (53, .int .i64 b.O.length), (54, .int .i64 i)] ∧ bx = [(bb, 27, bkV b ⟨a1, a2, a3, a4, c1, c2, c3, c4⟩)] ∧ hp = [s]) rfl ⟨0, pre, s, by simp, by omega, by rw [hpre]; simp, hJ, rfl, rfl, rfl⟩ ⟨rfl, rfl, rfl, rfl, rfl, trivial⟩ ?_
  clear hJ hpre
  clear pre s
  rintro m env bx hp ⟨i, pre, s, rfl, hi2, hpre, hJ, rfl, rfl, rfl⟩ ih
  by_cases hlt : i < b.O.length
  · obtain ⟨x, hx⟩ : ∃ x, b.O[i]? = some x := ⟨_, List.getElem?_eq_getElem hlt⟩
    obtain ⟨hxl, hxi⟩ := hi.r3 x (List.mem_of_getElem? hx)
    have hne : b.O.flatMap i64s ≠ [] := by
      intro h
      have h1 := flat_rec_len (sz := 6) (l := b.O) (fun x hx => (hi.r3 x hx).1)
      rw [h] at h1; simp only [List.length_nil] at h1; omega
    obtain ⟨g, o, rfl, hc⟩ := ha3.get hne
    have hmg : g ∉ (⟨w, kys [(bb, 27, bkV b ⟨a1, a2, some ⟨g, o, none⟩, a4, c1, c2, c3, c4⟩)] [s0]⟩ : Base).mods := hfree g (by exact List.mem_append_right _ (List.mem_append_right _ (List.mem_append_left _ (mem_slR hne))))
    obtain ⟨x0, x1, x2, x3, x4, x5, rfl⟩ := len6 hxl
    have rE : ∀ {bx : Bx} {hp : List Seg}, RdW ⟨w, kys [(bb, 27, bkV b ⟨a1, a2, some ⟨g, o, none⟩, a4, c1, c2, c3, c4⟩)] [s0]⟩ bx hp g (o + (i : Int).toNat * 6) (i64s [x0, x1, x2, x3, x4, x5]) := fun {_ _} => RdW.sl hc hmg (i * 6) (by omega) (fun j u hu => flat_rec (fun x hx => (hi.r3 x hx).1) hx j u hu)
    refine At.run 100 true [true] [hR (i64s [x0, x1, x2, x3, x4, x5])] rfl (by (repeat' apply And.intro) <;> first | exact rE | exact True.intro | omega | rfl | (simp only [inK]; omega) | exact decide_eq_true (by omega) | exact decide_eq_false (by omega) | (simp; done) | (simp; omega) | (simp [Value.oneCell']; done) | exact i64s_one _ | exact AggOk.mk (by kernel_rfl) (by kernel_rfl)) ?_
    refine At.step [] rfl rfl rfl rfl rfl trivial (OpOk.alloc (cs := [.int .i64 0, .int .i64 0, .int .i64 0, .int .i64 0, .int .i64 0, .int .i64 0]) rfl (by kernel_rfl) fun b4 hb4 => ?_)
    refine At.run 100 true [] [hB 0, hB 0, hB 0, hB 0, hB 0, hB 0, hB 0] rfl (by (repeat' apply And.intro) <;> first | exact i64s_one _ | exact True.intro | omega | rfl | (simp only [inK]; omega) | exact decide_eq_true (by omega) | exact decide_eq_false (by omega) | (simp; done) | (simp; omega) | (simp [Value.oneCell']; done) | exact i64s_one _ | exact AggOk.mk (by kernel_rfl) (by kernel_rfl)) ?_
    refine At.step [] rfl rfl rfl rfl rfl trivial (OpOk.buildSlice rfl rfl rfl rfl rfl rfl rfl (fun bs hbs => ?_))
    have hnext : (pre ++ [(⟨(3, x0, 0), [x1, x2, x3, x4, x5], bs⟩ : YE)]).map YE.row = (b.H.map (r1 1) ++ b.S.map r2) ++ (b.O.take (i + 1)).map (r1 3) := by
      rw [List.map_append, hpre, List.take_add_one, hx, List.map_append, List.append_assoc]; rfl
    refine At.yield [] rfl rfl rfl rfl rfl trivial (lp := y) (args := YE.enc ⟨(3, x0, 0), [x1, x2, x3, x4, x5], bs⟩) rfl [true] [true] (bm := [(bs, 2, i64s [x1, x2, x3, x4, x5])]) (hm := [s]) (br := [(b4, 57, i64s [x0, x1, x2, x3, x4, x5]), (bb, 27, bkV b ⟨a1, a2, some ⟨g, o, none⟩, a4, c1, c2, c3, c4⟩)]) (hr := []) (Q := fun bx hp => bx = [] ∧ ∃ s', hp = [s'] ∧ J (pre ++ [(⟨(3, x0, 0), [x1, x2, x3, x4, x5], bs⟩ : YE)]) s') rfl
      (fun w' hw' => hyield pre ⟨(3, x0, 0), [x1, x2, x3, x4, x5], bs⟩ s w' (by show List.map YE.row _ <+: _; rw [hnext]; exact rows_pfx2 b (i + 1)) hJ (hw'.toOwn.sel [true] [true] rfl) hw'.ext) ?_
    rintro _ _ ⟨rfl, s', rfl, hJ'⟩
    refine At.run 100 true [false] [] rfl (by (repeat' apply And.intro) <;> first | exact True.intro | omega | (simp only [inK]; omega) | (simp; done) | (simp; omega) | exact decide_eq_true (by omega) | exact decide_eq_false (by omega) | rfl | (simp [Value.oneCell']; done) | exact i64s_one _ | exact AggOk.mk (by kernel_rfl) (by kernel_rfl)) ?_
    refine At.keep [false, true] [true] rfl ?_
    exact At.weak (ih _ _ _ _ (by omega) ⟨i + 1, _, s', rfl, by omega, hnext, hJ', rfl, rfl, rfl⟩) ⟨rfl, rfl, rfl, rfl, some_int_eq (by omega), trivial⟩
  have hie : b.O.take i = b.O := List.take_of_length_le (by omega)
  rw [hie] at hpre
  clear ih
  refine At.run 100 true [false] [hB 0] rfl (by (repeat' apply And.intro) <;> first | exact True.intro | omega | (simp only [inK]; omega) | (simp; done) | (simp; omega) | exact decide_eq_true (by omega) | exact decide_eq_false (by omega) | rfl | (simp [Value.oneCell']; done) | exact i64s_one _ | exact AggOk.mk (by kernel_rfl) (by kernel_rfl)) ?_
  refine At.loop (n := b.R.length) (env0 := [(0, .func (.yield y) #[] #[]), (1, .pointer (some ⟨bb, 0, none⟩)), (77, .slice a4 b.R.length c4), (78, .int .i64 b.R.length), (79, .int .i64 0)]) (fun m env bx hp => ∃ (i : Nat) (pre : List YE) (s : Seg), m = b.R.length - i ∧ i ≤ b.R.length ∧ pre.map YE.row = (b.H.map (r1 1) ++ b.S.map r2 ++ b.O.map (r1 3)) ++ (b.R.take i).map (r1 4) ∧ J pre s ∧
    env = [(0, .func (.yield y) #[] #[]), (1, .pointer (some ⟨bb, 0, none⟩)), (77, .slice a4 b.R.length c4), (78, .int .i64 b.R.length), (79, .int .i64 i)] ∧ bx = [(bb, 27, bkV b ⟨a1, a2, a3, a4, c1, c2, c3, c4⟩)] ∧ hp = [s]) rfl ⟨0, pre, s, by simp, by omega, by rw [hpre]; simp, hJ, rfl, rfl, rfl⟩ ⟨rfl, rfl, rfl, rfl, rfl, trivial⟩ ?_
  clear hJ hpre
  clear pre s
  rintro m env bx hp ⟨i, pre, s, rfl, hi2, hpre, hJ, rfl, rfl, rfl⟩ ih
  by_cases hlt : i < b.R.length
  · obtain ⟨x, hx⟩ : ∃ x, b.R[i]? = some x := ⟨_, List.getElem?_eq_getElem hlt⟩
    obtain ⟨hxl, hxi⟩ := hi.r4 x (List.mem_of_getElem? hx)
    have hne : b.R.flatMap i64s ≠ [] := by
      intro h
      have h1 := flat_rec_len (sz := 2) (l := b.R) (fun x hx => (hi.r4 x hx).1)
      rw [h] at h1; simp only [List.length_nil] at h1; omega
    obtain ⟨g, o, rfl, hc⟩ := ha4.get hne
    have hmg : g ∉ (⟨w, kys [(bb, 27, bkV b ⟨a1, a2, a3, some ⟨g, o, none⟩, c1, c2, c3, c4⟩)] [s0]⟩ : Base).mods := hfree g (by exact List.mem_append_right _ (List.mem_append_right _ (List.mem_append_right _ (mem_slR hne))))
    obtain ⟨x0, x1, rfl⟩ := len2 hxl
    have rE : ∀ {bx : Bx} {hp : List Seg}, RdW ⟨w, kys [(bb, 27, bkV b ⟨a1, a2, a3, some ⟨g, o, none⟩, c1, c2, c3, c4⟩)] [s0]⟩ bx hp g (o + (i : Int).toNat * 2) (i64s [x0, x1]) := fun {_ _} => RdW.sl hc hmg (i * 2) (by omega) (fun j u hu => flat_rec (fun x hx => (hi.r4 x hx).1) hx j u hu)
    refine At.run 100 true [true] [hR (i64s [x0, x1])] rfl (by (repeat' apply And.intro) <;> first | exact rE | exact True.intro | omega | rfl | (simp only [inK]; omega) | exact decide_eq_true (by omega) | exact decide_eq_false (by omega) | (simp; done) | (simp; omega) | (simp [Value.oneCell']; done) | exact i64s_one _ | exact AggOk.mk (by kernel_rfl) (by kernel_rfl)) ?_
    refine At.step [] rfl rfl rfl rfl rfl trivial (OpOk.alloc (cs := [.int .i64 0, .int .i64 0]) rfl (by kernel_rfl) fun b4 hb4 => ?_)
    refine At.run 100 true [] [hB 0, hB 0, hB 0] rfl (by (repeat' apply And.intro) <;> first | exact i64s_one _ | exact True.intro | omega | rfl | (simp only [inK]; omega) | exact decide_eq_true (by omega) | exact decide_eq_false (by omega) | (simp; done) | (simp; omega) | (simp [Value.oneCell']; done) | exact i64s_one _ | exact AggOk.mk (by kernel_rfl) (by kernel_rfl)) ?_
    refine At.step [] rfl rfl rfl rfl rfl trivial (OpOk.buildSlice rfl rfl rfl rfl rfl rfl rfl (fun bs hbs => ?_))
    have hnext : (pre ++ [(⟨(4, x0, 0), [x1], bs⟩ : YE)]).map YE.row = (b.H.map (r1 1) ++ b.S.map r2 ++ b.O.map (r1 3)) ++ (b.R.take (i + 1)).map (r1 4) := by
      rw [List.map_append, hpre, List.take_add_one, hx, List.map_append, List.append_assoc]; rfl
    refine At.yield [] rfl rfl rfl rfl rfl trivial (lp := y) (args := YE.enc ⟨(4, x0, 0), [x1], bs⟩) rfl [true] [true] (bm := [(bs, 2, i64s [x1])]) (hm := [s]) (br := [(b4, 50, i64s [x0, x1]), (bb, 27, bkV b ⟨a1, a2, a3, some ⟨g, o, none⟩, c1, c2, c3, c4⟩)]) (hr := []) (Q := fun bx hp => bx = [] ∧ ∃ s', hp = [s'] ∧ J (pre ++ [(⟨(4, x0, 0), [x1], bs⟩ : YE)]) s') rfl
      (fun w' hw' => hyield pre ⟨(4, x0, 0), [x1], bs⟩ s w' (by show List.map YE.row _ <+: _; rw [hnext]; exact rows_pfx3 b (i + 1)) hJ (hw'.toOwn.sel [true] [true] rfl) hw'.ext) ?_
    rintro _ _ ⟨rfl, s', rfl, hJ'⟩
    refine At.run 100 true [false] [] rfl (by (repeat' apply And.intro) <;> first | exact True.intro | omega | (simp only [inK]; omega) | (simp; done) | (simp; omega) | exact decide_eq_true (by omega) | exact decide_eq_false (by omega) | rfl | (simp [Value.oneCell']; done) | exact i64s_one _ | exact AggOk.mk (by kernel_rfl) (by kernel_rfl)) ?_
    refine At.keep [false, true] [true] rfl ?_
    exact At.weak (ih _ _ _ _ (by omega) ⟨i + 1, _, s', rfl, by omega, hnext, hJ', rfl, rfl, rfl⟩) ⟨rfl, rfl, rfl, rfl, some_int_eq (by omega), trivial⟩
  have hie : b.R.take i = b.R := List.take_of_length_le (by omega)
  rw [hie] at hpre
  clear ih
  refine At.run 100 true [false] [hB 0] rfl (by (repeat' apply And.intro) <;> first | exact True.intro | omega | (simp only [inK]; omega) | (simp; done) | (simp; omega) | exact decide_eq_true (by omega) | exact decide_eq_false (by omega) | rfl | (simp [Value.oneCell']; done) | exact i64s_one _ | exact AggOk.mk (by kernel_rfl) (by kernel_rfl)) ?_
  refine At.step [] rfl rfl rfl rfl rfl trivial (OpOk.buildSlice rfl rfl rfl rfl rfl rfl rfl (fun bs hbs => ?_))
  have hnext : (pre ++ [(⟨(5, 0, 0), [b.c], bs⟩ : YE)]).map YE.row = rowsB b := by
    rw [List.map_append, hpre]; simp only [rowsB, List.append_assoc]; rfl
  refine At.yield [] rfl rfl rfl rfl rfl trivial (lp := y) (args := YE.enc ⟨(5, 0, 0), [b.c], bs⟩) rfl [true] [true] (bm := [(bs, 2, i64s [b.c])]) (hm := [s]) (br := [(bb, 27, bkV b ⟨a1, a2, a3, a4, c1, c2, c3, c4⟩)]) (hr := []) (Q := fun bx hp => bx = [] ∧ ∃ s', hp = [s'] ∧ J (pre ++ [(⟨(5, 0, 0), [b.c], bs⟩ : YE)]) s') rfl
    (fun w' hw' => hyield pre ⟨(5, 0, 0), [b.c], bs⟩ s w' (by show List.map YE.row _ <+: _; rw [hnext]; exact List.prefix_rfl) hJ (hw'.toOwn.sel [true] [true] rfl) hw'.ext) ?_
  rintro _ _ ⟨rfl, s', rfl, hJ'⟩
  refine At.run 100 true [] [] rfl (by (repeat' apply And.intro) <;> first | exact True.intro | omega | (simp only [inK]; omega) | (simp; done) | (simp; omega) | exact decide_eq_true (by omega) | exact decide_eq_false (by omega) | rfl | (simp [Value.oneCell']; done) | exact i64s_one _ | exact AggOk.mk (by kernel_rfl) (by kernel_rfl)) ?_
  exact At.ret [] rfl Tryd.func81 rfl trivial ⟨rfl, s', rfl, _, hnext, hJ'⟩

end Go.Proofs

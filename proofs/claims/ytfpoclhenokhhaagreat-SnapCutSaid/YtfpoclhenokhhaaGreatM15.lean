/-
  Walks of layer 13: books put.
-/
import Derived.Test.YtfpoclhenokhhaaGreatM9
import Derived.Test.YtfpoclhenokhhaaGreatM5
import Derived.Test.YtfpoclhenokhhaaGreatM11
import Derived.Test.YtfpoclhenokhhaaGreatM13
import Derived.Test.YtfpoclhenokhhaaGreatM14
/-
  Walks of layer 13: books put.
-/
namespace Go.Proofs
open Go Go.Eng
set_option maxRecDepth 100000
set_option maxHeartbeats 4000000
attribute [local irreducible] Tri

/-- A field's functions: it is read by the first one, as the i-th number. -/
def GetOk (P : Program) (sz i F : Nat) : Prop := ∀ (x : List Int) (w : World), x.length = sz → Fun P F [.agg ⟨i64s x⟩] w (.int .i64 (nthI x i))

theorem Tryz.holders1_w : GetOk Tryz.prog 4 0 53 := by
  intro x w hx
  obtain ⟨x0, x1, x2, x3, rfl⟩ := len4 hx
  refine Tri.enter (bx := []) (hp := []) Tryz.func53 rfl (by kernel_rfl) rfl (Own.nil w) ?_
  refine At.run 100 true [] [] rfl trivial ?_
  refine At.step [] rfl rfl rfl rfl rfl trivial (OpOk.box rfl rfl rfl fun bq hbq => ?_)
  refine At.run 100 true [] [hB 0] rfl (by (repeat' apply And.intro) <;> first | exact True.intro | omega | (simp only [inK]; omega) | (simp; done) | (simp; omega) | exact decide_eq_true (by omega) | exact decide_eq_false (by omega) | rfl | (simp [Value.oneCell']; done) | exact i64s_one _ | exact AggOk.mk (by kernel_rfl) (by kernel_rfl)) ?_
  exact At.retK [] [] [] rfl rfl Tryz.func53 rfl trivial ⟨rfl, rfl, rfl⟩

theorem Tryz.holders3_w : GetOk Tryz.prog 4 1 55 := by
  intro x w hx
  obtain ⟨x0, x1, x2, x3, rfl⟩ := len4 hx
  refine Tri.enter (bx := []) (hp := []) Tryz.func55 rfl (by kernel_rfl) rfl (Own.nil w) ?_
  refine At.run 100 true [] [] rfl trivial ?_
  refine At.step [] rfl rfl rfl rfl rfl trivial (OpOk.box rfl rfl rfl fun bq hbq => ?_)
  refine At.run 100 true [] [hB 0] rfl (by (repeat' apply And.intro) <;> first | exact True.intro | omega | (simp only [inK]; omega) | (simp; done) | (simp; omega) | exact decide_eq_true (by omega) | exact decide_eq_false (by omega) | rfl | (simp [Value.oneCell']; done) | exact i64s_one _ | exact AggOk.mk (by kernel_rfl) (by kernel_rfl)) ?_
  exact At.retK [] [] [] rfl rfl Tryz.func55 rfl trivial ⟨rfl, rfl, rfl⟩

theorem Tryz.holders5_w : GetOk Tryz.prog 4 2 57 := by
  intro x w hx
  obtain ⟨x0, x1, x2, x3, rfl⟩ := len4 hx
  refine Tri.enter (bx := []) (hp := []) Tryz.func57 rfl (by kernel_rfl) rfl (Own.nil w) ?_
  refine At.run 100 true [] [] rfl trivial ?_
  refine At.step [] rfl rfl rfl rfl rfl trivial (OpOk.box rfl rfl rfl fun bq hbq => ?_)
  refine At.run 100 true [] [hB 0] rfl (by (repeat' apply And.intro) <;> first | exact True.intro | omega | (simp only [inK]; omega) | (simp; done) | (simp; omega) | exact decide_eq_true (by omega) | exact decide_eq_false (by omega) | rfl | (simp [Value.oneCell']; done) | exact i64s_one _ | exact AggOk.mk (by kernel_rfl) (by kernel_rfl)) ?_
  exact At.retK [] [] [] rfl rfl Tryz.func57 rfl trivial ⟨rfl, rfl, rfl⟩

theorem Tryz.holders7_w : GetOk Tryz.prog 4 3 59 := by
  intro x w hx
  obtain ⟨x0, x1, x2, x3, rfl⟩ := len4 hx
  refine Tri.enter (bx := []) (hp := []) Tryz.func59 rfl (by kernel_rfl) rfl (Own.nil w) ?_
  refine At.run 100 true [] [] rfl trivial ?_
  refine At.step [] rfl rfl rfl rfl rfl trivial (OpOk.box rfl rfl rfl fun bq hbq => ?_)
  refine At.run 100 true [] [hB 0] rfl (by (repeat' apply And.intro) <;> first | exact True.intro | omega | (simp only [inK]; omega) | (simp; done) | (simp; omega) | exact decide_eq_true (by omega) | exact decide_eq_false (by omega) | rfl | (simp [Value.oneCell']; done) | exact i64s_one _ | exact AggOk.mk (by kernel_rfl) (by kernel_rfl)) ?_
  exact At.retK [] [] [] rfl rfl Tryz.func59 rfl trivial ⟨rfl, rfl, rfl⟩

def Tryz.holdersL : List Value := [.func (.func 53) ⟨[]⟩ ⟨[]⟩, .func (.func 54) ⟨[]⟩ ⟨[]⟩, .func (.func 55) ⟨[]⟩ ⟨[]⟩, .func (.func 56) ⟨[]⟩ ⟨[]⟩, .func (.func 57) ⟨[]⟩ ⟨[]⟩, .func (.func 58) ⟨[]⟩ ⟨[]⟩, .func (.func 59) ⟨[]⟩ ⟨[]⟩, .func (.func 60) ⟨[]⟩ ⟨[]⟩]

theorem Tryz.holders_w (w : World) : Tri Tryz.prog 17 [] w [] (fun v bx hp => ∃ b, v = sv (some b) 4 4 ∧ bx = [(b, 103, Tryz.holdersL)] ∧ hp = []) := by
  refine Tri.enter (bx := []) (hp := []) Tryz.func17 rfl (by kernel_rfl) rfl (Own.nil w) ?_
  refine At.run 100 true [] [] rfl trivial ?_
  refine At.step [] rfl rfl rfl rfl rfl trivial (OpOk.buildSlice rfl rfl rfl rfl rfl rfl rfl (fun b hb => ?_))
  refine At.run 100 true [] [] rfl (by (repeat' apply And.intro) <;> first | exact True.intro | omega | (simp only [inK]; omega) | (simp; done) | (simp; omega) | exact decide_eq_true (by omega) | exact decide_eq_false (by omega) | rfl | (simp [Value.oneCell']; done) | exact i64s_one _ | exact AggOk.mk (by kernel_rfl) (by kernel_rfl)) ?_
  exact At.ret [] rfl Tryz.func17 rfl trivial ⟨b, rfl, rfl, rfl⟩

theorem Tryz.holdersL_get (i : Nat) (hi : i < 4) : ∃ F G, Tryz.holdersL[i * 2]? = some (.func (.func F) ⟨[]⟩ ⟨[]⟩) ∧ Tryz.holdersL[i * 2 + 1]? = some (.func (.func G) ⟨[]⟩ ⟨[]⟩) ∧ GetOk Tryz.prog 4 i F := by
  match i, hi with
  | 0, _ => exact ⟨_, _, rfl, rfl, Tryz.holders1_w⟩
  | 1, _ => exact ⟨_, _, rfl, rfl, Tryz.holders3_w⟩
  | 2, _ => exact ⟨_, _, rfl, rfl, Tryz.holders5_w⟩
  | 3, _ => exact ⟨_, _, rfl, rfl, Tryz.holders7_w⟩

theorem Tryz.snapPutHolder_w (out : List UInt8) (og : Option Nat) (oc : Nat) (l : List (List Int)) (a : Option Addr) (cap gf : Nat) (w : World) (hl : Recs 4 l) (hlen : l.length ≤ 65536) (hob : out.length ≤ 1000000000) (hrow : SlOk w a (l.flatMap i64s))
    (hf : w.heap[gf]? = some (.cells Tryz.holdersL.toArray 103 (0, 0))) (hown : Own [] [Seg.row og 5 1 out.length oc (u8s out)] w) (hm : gf ∉ kys [] [Seg.row og 5 1 out.length oc (u8s out)]) (hma : ∀ k, k ∈ slR a (l.flatMap i64s) → k ∉ kys [] [Seg.row og 5 1 out.length oc (u8s out)]) :
    Tri Tryz.prog 16 [sv og out.length oc, .slice a l.length cap, sv (some gf) 4 4] w (kys [] [Seg.row og 5 1 out.length oc (u8s out)])
      (fun v bx hp => ∃ og' oc', v = sv og' (out ++ putB 4 l).length oc' ∧ bx = [] ∧ hp = [Seg.row og' 5 1 (out ++ putB 4 l).length oc' (u8s (out ++ putB 4 l))]) := by
  refine Tri.enter Tryz.func16 rfl (by kernel_rfl) rfl hown ?_
  have hpl := putB_len hl hlen
  refine At.run 100 true [] [] rfl trivial ?_
  refine At.loop (n := 4) (env0 := [(0, sv og out.length oc), (1, .slice a l.length cap), (14, .slice (some ⟨gf, 0, none⟩) 4 4), (15, .int .i64 4), (16, .int .i64 0)]) (fun m env bx hp => ∃ (i : Nat) (og' : Option Nat) (oc' : Nat), m = 4 - i ∧ i ≤ 4 ∧
    env = [(0, sv og' (out ++ putB i l).length oc'), (1, .slice a l.length cap), (14, .slice (some ⟨gf, 0, none⟩) 4 4), (15, .int .i64 4), (16, .int .i64 i)] ∧ bx = [] ∧ hp = [Seg.row og' 5 1 (out ++ putB i l).length oc' (u8s (out ++ putB i l))]) rfl
    ⟨0, og, oc, rfl, by omega, by simp [putB], rfl, by simp [putB]⟩ ⟨rfl, rfl, rfl, rfl, rfl, trivial⟩ ?_
  rintro m env bx hp ⟨i, og', oc', rfl, hi, rfl, rfl, rfl⟩ ih
  have hpi := hpl i
  have hbnd : (out ++ putB i l).length ≤ 1000000000 + 4 * (10 + 20 * 65536) := by
    rw [List.length_append]
    have : i * (10 + 20 * l.length) ≤ 4 * (10 + 20 * 65536) := Nat.mul_le_mul hi (by omega)
    omega
  by_cases hlt : i < 4
  · obtain ⟨F, G, hF, hG, hget⟩ := Tryz.holdersL_get i hlt
    have hld : ∀ {bx : Bx} {hp : List Seg}, RdW ⟨w, kys [] [Seg.row og 5 1 out.length oc (u8s out)]⟩ bx hp gf (0 + (i : Int).toNat * 2) [.func (.func F) ⟨[]⟩ ⟨[]⟩, .func (.func G) ⟨[]⟩ ⟨[]⟩] := fun {_ _} => RdW.blkB hm hf (fun j u hu => by
      match j, hu with
      | 0, hu => simp at hu; subst hu; rw [show 0 + (i : Int).toNat * 2 + 0 = i * 2 by omega]; exact hF
      | 1, hu => simp at hu; subst hu; rw [show 0 + (i : Int).toNat * 2 + 1 = i * 2 + 1 by omega]; exact hG)
    refine At.run 100 true [true] [hR [.func (.func F) ⟨[]⟩ ⟨[]⟩, .func (.func G) ⟨[]⟩ ⟨[]⟩]] rfl (by (repeat' apply And.intro) <;> first | exact hld | exact True.intro | omega | rfl | (simp only [inK]; omega) | exact decide_eq_true (by omega) | exact decide_eq_false (by omega) | (simp; done) | (simp; omega) | (simp [Value.oneCell']; done) | exact i64s_one _ | exact AggOk.mk (by kernel_rfl) (by kernel_rfl)) ?_
    refine At.step [] rfl rfl rfl rfl rfl trivial (OpOk.alloc (cs := [.nilFunc, .nilFunc]) rfl (by kernel_rfl) fun b8 hb8 => ?_)
    refine At.run 100 true [] [hB 0] rfl (by (repeat' apply And.intro) <;> first | exact True.intro | omega | (simp only [inK]; omega) | (simp; done) | (simp; omega) | exact decide_eq_true (by omega) | exact decide_eq_false (by omega) | rfl | (simp [Value.oneCell']; done) | exact i64s_one _ | exact AggOk.mk (by kernel_rfl) (by kernel_rfl)) ?_
    refine At.nilRow 2 1 ?_
    refine At.loop (n := l.length) (env0 := [(0, sv og' (out ++ putB i l).length oc'), (1, .slice a l.length cap), (8, .pointer (some ⟨b8, 0, none⟩)), (9, sv none 0 0), (14, .slice (some ⟨gf, 0, none⟩) 4 4), (15, .int .i64 4), (16, .int .i64 i), (20, .slice a l.length cap), (21, .int .i64 l.length), (22, .int .i64 0)])
      (fun m env bx hp => ∃ (j : Nat) (cg : Option Nat) (cc : Nat), m = l.length - j ∧ j ≤ l.length ∧
        env = [(0, sv og' (out ++ putB i l).length oc'), (1, .slice a l.length cap), (8, .pointer (some ⟨b8, 0, none⟩)), (9, sv cg j cc), (14, .slice (some ⟨gf, 0, none⟩) 4 4), (15, .int .i64 4), (16, .int .i64 i), (20, .slice a l.length cap), (21, .int .i64 l.length), (22, .int .i64 j)] ∧
        bx = [(b8, 103, [.func (.func F) ⟨[]⟩ ⟨[]⟩, .func (.func G) ⟨[]⟩ ⟨[]⟩])] ∧ hp = [Seg.row cg 2 1 j cc (i64s (colOf (l.take j) i)), Seg.row og' 5 1 (out ++ putB i l).length oc' (u8s (out ++ putB i l))]) rfl
      ⟨0, none, 0, rfl, by omega, rfl, rfl, rfl⟩ ⟨rfl, rfl, rfl, rfl, rfl, rfl, rfl, rfl, rfl, rfl, trivial⟩ ?_
    rintro m env bx hp ⟨j, cg, cc, rfl, hj, rfl, rfl, rfl⟩ ih2
    by_cases hjl : j < l.length
    · obtain ⟨x, hx⟩ : ∃ x, l[j]? = some x := ⟨_, List.getElem?_eq_getElem hjl⟩
      have hmx := List.mem_of_getElem? hx
      obtain ⟨g, oo, rfl, hc⟩ := hrow.get (slNe (by decide) hl.len hx)
      have r1 : ∀ {bx : Bx} {hp : List Seg}, RdW ⟨w, kys [] [Seg.row og 5 1 out.length oc (u8s out)]⟩ bx hp g (oo + (j : Int).toNat * 4) (i64s x) := fun {_ _} => RdW.rec hl.len hc (hma g (mem_slR (slNe (by decide) hl.len hx))) hx (by omega)
      have hcol : colOf (l.take (j + 1)) i = colOf (l.take j) i ++ [nthI x i] := by rw [List.take_add_one, hx]; simp [colOf]
      have hgx := fun w' => hget x w' (hl.len x hmx)
      generalize nthI x i = q at *
      obtain ⟨x0, x1, x2, x3, rfl⟩ := len4 (hl.len x hmx)
      refine At.run 100 true [true] [hR [.int .i64 x0, .int .i64 x1, .int .i64 x2, .int .i64 x3]] rfl (by (repeat' apply And.intro) <;> first | exact r1 | exact True.intro | omega | rfl | (simp only [inK]; omega) | exact decide_eq_true (by omega) | exact decide_eq_false (by omega) | (simp; done) | (simp; omega) | (simp [Value.oneCell']; done) | exact i64s_one _ | exact AggOk.mk (by kernel_rfl) (by kernel_rfl)) ?_
      refine At.step [] rfl rfl rfl rfl rfl trivial (OpOk.alloc (cs := i64s [0, 0, 0, 0]) rfl (by kernel_rfl) fun b11 hb11 => ?_)
      refine At.run 100 true [] [hB 0, hB 1, hB 0, hC (.int .i64 q)] rfl (by (repeat' apply And.intro) <;> first | exact fun w' _ => hgx w' | exact True.intro | omega | rfl | (simp only [inK]; omega) | exact decide_eq_true (by omega) | exact decide_eq_false (by omega) | (simp; done) | (simp; omega) | (simp [Value.oneCell']; done) | exact i64s_one _ | exact AggOk.mk (by kernel_rfl) (by kernel_rfl)) ?_
      refine At.append1 0 1 8 rfl rfl rfl rfl rfl rfl rfl rfl rfl trivial (fun _ => rfl) trivial rfl rfl rfl rfl rfl rfl rfl rfl (fun _ => rfl) (by simp [Value.oneCell']) (by omega) (by omega) (fun bb a2 cap2 => ?_)
      refine At.run 100 true [] [] rfl (by (repeat' apply And.intro) <;> first | exact True.intro | omega | (simp only [inK]; omega) | (simp; done) | (simp; omega) | exact decide_eq_true (by omega) | exact decide_eq_false (by omega) | rfl | (simp [Value.oneCell']; done) | exact i64s_one _ | exact AggOk.mk (by kernel_rfl) (by kernel_rfl)) ?_
      refine At.keep [false, true] [true, true] rfl ?_
      refine At.weak (ih2 (l.length - (j + 1)) _ _ _ (by omega) ⟨j + 1, a2, cap2, rfl, by omega, rfl, rfl, ?_⟩) ⟨rfl, rfl, rfl, rfl, rfl, rfl, rfl, rfl, rfl, some_int_eq (by omega), trivial⟩
      rw [hcol]; simp [setL, i64s]
    · have : j = l.length := by omega
      subst this
      rw [List.take_length]
      have hcl := colOf_len l i
      have hcp : ∀ {bx : Bx} {hp : List Seg}, CallOb Tryz.prog ⟨w, kys [] [Seg.row og 5 1 out.length oc (u8s out)]⟩ bx (Seg.row cg 2 1 l.length cc (i64s (colOf l i)) :: hp) 52 [sv cg l.length cc] (.tuple #[str (colL (colOf l i)), .int .i64 0]) := fun {bx hp} w' hw' => by
        have := Tryz.Put_w (colOf l i) (svA cg) cc w' (by omega) (SlOk.row (hw'.hp (Seg.row cg 2 1 l.length cc (i64s (colOf l i))) (by simp)))
        rw [hcl] at this; exact this
      have hcll := colL_len (colOf l i) (colOf_in hl i) (by omega)
      refine At.run 100 true [false] [hC (.tuple #[str (colL (colOf l i)), .int .i64 0])] rfl (by (repeat' apply And.intro) <;> first | exact hcp | exact True.intro | omega | rfl | (simp only [inK]; omega) | exact decide_eq_true (by omega) | exact decide_eq_false (by omega) | (simp; done) | (simp; omega) | (simp [Value.oneCell']; done) | exact i64s_one _ | exact AggOk.mk (by kernel_rfl) (by kernel_rfl)) ?_
      refine At.step [] rfl rfl rfl rfl rfl trivial (OpOk.appendStr 1 rfl rfl rfl rfl rfl rfl rfl (by rw [bl_mk]; omega) fun a3 cap3 => ?_)
      rw [bl_mk]
      refine At.run 100 true [] [] rfl (by (repeat' apply And.intro) <;> first | exact True.intro | omega | (simp only [inK]; omega) | (simp; done) | (simp; omega) | exact decide_eq_true (by omega) | exact decide_eq_false (by omega) | rfl | (simp [Value.oneCell']; done) | exact i64s_one _ | exact AggOk.mk (by kernel_rfl) (by kernel_rfl)) ?_
      refine At.keep [] [false, true] rfl ?_
      refine At.weak (ih (4 - (i + 1)) _ _ _ (by omega) ⟨i + 1, a3, cap3, rfl, by omega, rfl, rfl, ?_⟩) ⟨some_sv_eq (by rw [putB_succ]; simp only [List.length_append]; omega), rfl, rfl, rfl, some_int_eq (by omega), trivial⟩
      rw [putB_succ]; simp only [setL, u8s_append, List.length_append, List.append_assoc, Nat.add_assoc]
  · have : i = 4 := by omega
    subst this
    refine At.run 100 true [false] [] rfl (by (repeat' apply And.intro) <;> first | exact True.intro | omega | (simp only [inK]; omega) | (simp; done) | (simp; omega) | exact decide_eq_true (by omega) | exact decide_eq_false (by omega) | rfl | (simp [Value.oneCell']; done) | exact i64s_one _ | exact AggOk.mk (by kernel_rfl) (by kernel_rfl)) ?_
    exact At.ret [] rfl Tryz.func16 rfl trivial ⟨og', oc', rfl, rfl, rfl⟩

end Go.Proofs

/-
  Walks of layer 13: books put.
-/
namespace Go.Proofs
open Go Go.Eng
set_option maxRecDepth 100000
set_option maxHeartbeats 4000000
attribute [local irreducible] Tri


theorem Tryz.stakes1_w : GetOk Tryz.prog 3 0 61 := by
  intro x w hx
  obtain ⟨x0, x1, x2, rfl⟩ := len3 hx
  refine Tri.enter (bx := []) (hp := []) Tryz.func61 rfl (by kernel_rfl) rfl (Own.nil w) ?_
  refine At.run 100 true [] [] rfl trivial ?_
  refine At.step [] rfl rfl rfl rfl rfl trivial (OpOk.box rfl rfl rfl fun bq hbq => ?_)
  refine At.run 100 true [] [hB 0] rfl (by (repeat' apply And.intro) <;> first | exact True.intro | omega | (simp only [inK]; omega) | (simp; done) | (simp; omega) | exact decide_eq_true (by omega) | exact decide_eq_false (by omega) | rfl | (simp [Value.oneCell']; done) | exact i64s_one _ | exact AggOk.mk (by kernel_rfl) (by kernel_rfl)) ?_
  exact At.retK [] [] [] rfl rfl Tryz.func61 rfl trivial ⟨rfl, rfl, rfl⟩

theorem Tryz.stakes3_w : GetOk Tryz.prog 3 1 63 := by
  intro x w hx
  obtain ⟨x0, x1, x2, rfl⟩ := len3 hx
  refine Tri.enter (bx := []) (hp := []) Tryz.func63 rfl (by kernel_rfl) rfl (Own.nil w) ?_
  refine At.run 100 true [] [] rfl trivial ?_
  refine At.step [] rfl rfl rfl rfl rfl trivial (OpOk.box rfl rfl rfl fun bq hbq => ?_)
  refine At.run 100 true [] [hB 0] rfl (by (repeat' apply And.intro) <;> first | exact True.intro | omega | (simp only [inK]; omega) | (simp; done) | (simp; omega) | exact decide_eq_true (by omega) | exact decide_eq_false (by omega) | rfl | (simp [Value.oneCell']; done) | exact i64s_one _ | exact AggOk.mk (by kernel_rfl) (by kernel_rfl)) ?_
  exact At.retK [] [] [] rfl rfl Tryz.func63 rfl trivial ⟨rfl, rfl, rfl⟩

theorem Tryz.stakes5_w : GetOk Tryz.prog 3 2 65 := by
  intro x w hx
  obtain ⟨x0, x1, x2, rfl⟩ := len3 hx
  refine Tri.enter (bx := []) (hp := []) Tryz.func65 rfl (by kernel_rfl) rfl (Own.nil w) ?_
  refine At.run 100 true [] [] rfl trivial ?_
  refine At.step [] rfl rfl rfl rfl rfl trivial (OpOk.box rfl rfl rfl fun bq hbq => ?_)
  refine At.run 100 true [] [hB 0] rfl (by (repeat' apply And.intro) <;> first | exact True.intro | omega | (simp only [inK]; omega) | (simp; done) | (simp; omega) | exact decide_eq_true (by omega) | exact decide_eq_false (by omega) | rfl | (simp [Value.oneCell']; done) | exact i64s_one _ | exact AggOk.mk (by kernel_rfl) (by kernel_rfl)) ?_
  exact At.retK [] [] [] rfl rfl Tryz.func65 rfl trivial ⟨rfl, rfl, rfl⟩

def Tryz.stakesL : List Value := [.func (.func 61) ⟨[]⟩ ⟨[]⟩, .func (.func 62) ⟨[]⟩ ⟨[]⟩, .func (.func 63) ⟨[]⟩ ⟨[]⟩, .func (.func 64) ⟨[]⟩ ⟨[]⟩, .func (.func 65) ⟨[]⟩ ⟨[]⟩, .func (.func 66) ⟨[]⟩ ⟨[]⟩]

theorem Tryz.stakes_w (w : World) : Tri Tryz.prog 19 [] w [] (fun v bx hp => ∃ b, v = sv (some b) 3 3 ∧ bx = [(b, 109, Tryz.stakesL)] ∧ hp = []) := by
  refine Tri.enter (bx := []) (hp := []) Tryz.func19 rfl (by kernel_rfl) rfl (Own.nil w) ?_
  refine At.run 100 true [] [] rfl trivial ?_
  refine At.step [] rfl rfl rfl rfl rfl trivial (OpOk.buildSlice rfl rfl rfl rfl rfl rfl rfl (fun b hb => ?_))
  refine At.run 100 true [] [] rfl (by (repeat' apply And.intro) <;> first | exact True.intro | omega | (simp only [inK]; omega) | (simp; done) | (simp; omega) | exact decide_eq_true (by omega) | exact decide_eq_false (by omega) | rfl | (simp [Value.oneCell']; done) | exact i64s_one _ | exact AggOk.mk (by kernel_rfl) (by kernel_rfl)) ?_
  exact At.ret [] rfl Tryz.func19 rfl trivial ⟨b, rfl, rfl, rfl⟩

theorem Tryz.stakesL_get (i : Nat) (hi : i < 3) : ∃ F G, Tryz.stakesL[i * 2]? = some (.func (.func F) ⟨[]⟩ ⟨[]⟩) ∧ Tryz.stakesL[i * 2 + 1]? = some (.func (.func G) ⟨[]⟩ ⟨[]⟩) ∧ GetOk Tryz.prog 3 i F := by
  match i, hi with
  | 0, _ => exact ⟨_, _, rfl, rfl, Tryz.stakes1_w⟩
  | 1, _ => exact ⟨_, _, rfl, rfl, Tryz.stakes3_w⟩
  | 2, _ => exact ⟨_, _, rfl, rfl, Tryz.stakes5_w⟩

theorem Tryz.snapPutStake_w (out : List UInt8) (og : Option Nat) (oc : Nat) (l : List (List Int)) (a : Option Addr) (cap gf : Nat) (w : World) (hl : Recs 3 l) (hlen : l.length ≤ 65536) (hob : out.length ≤ 1000000000) (hrow : SlOk w a (l.flatMap i64s))
    (hf : w.heap[gf]? = some (.cells Tryz.stakesL.toArray 109 (0, 0))) (hown : Own [] [Seg.row og 5 1 out.length oc (u8s out)] w) (hm : gf ∉ kys [] [Seg.row og 5 1 out.length oc (u8s out)]) (hma : ∀ k, k ∈ slR a (l.flatMap i64s) → k ∉ kys [] [Seg.row og 5 1 out.length oc (u8s out)]) :
    Tri Tryz.prog 18 [sv og out.length oc, .slice a l.length cap, sv (some gf) 3 3] w (kys [] [Seg.row og 5 1 out.length oc (u8s out)])
      (fun v bx hp => ∃ og' oc', v = sv og' (out ++ putB 3 l).length oc' ∧ bx = [] ∧ hp = [Seg.row og' 5 1 (out ++ putB 3 l).length oc' (u8s (out ++ putB 3 l))]) := by
  refine Tri.enter Tryz.func18 rfl (by kernel_rfl) rfl hown ?_
  have hpl := putB_len hl hlen
  refine At.run 100 true [] [] rfl trivial ?_
  refine At.loop (n := 3) (env0 := [(0, sv og out.length oc), (1, .slice a l.length cap), (14, .slice (some ⟨gf, 0, none⟩) 3 3), (15, .int .i64 3), (16, .int .i64 0)]) (fun m env bx hp => ∃ (i : Nat) (og' : Option Nat) (oc' : Nat), m = 3 - i ∧ i ≤ 3 ∧
    env = [(0, sv og' (out ++ putB i l).length oc'), (1, .slice a l.length cap), (14, .slice (some ⟨gf, 0, none⟩) 3 3), (15, .int .i64 3), (16, .int .i64 i)] ∧ bx = [] ∧ hp = [Seg.row og' 5 1 (out ++ putB i l).length oc' (u8s (out ++ putB i l))]) rfl
    ⟨0, og, oc, rfl, by omega, by simp [putB], rfl, by simp [putB]⟩ ⟨rfl, rfl, rfl, rfl, rfl, trivial⟩ ?_
  rintro m env bx hp ⟨i, og', oc', rfl, hi, rfl, rfl, rfl⟩ ih
  have hpi := hpl i
  have hbnd : (out ++ putB i l).length ≤ 1000000000 + 3 * (10 + 20 * 65536) := by
    rw [List.length_append]
    have : i * (10 + 20 * l.length) ≤ 3 * (10 + 20 * 65536) := Nat.mul_le_mul hi (by omega)
    omega
  by_cases hlt : i < 3
  · obtain ⟨F, G, hF, hG, hget⟩ := Tryz.stakesL_get i hlt
    have hld : ∀ {bx : Bx} {hp : List Seg}, RdW ⟨w, kys [] [Seg.row og 5 1 out.length oc (u8s out)]⟩ bx hp gf (0 + (i : Int).toNat * 2) [.func (.func F) ⟨[]⟩ ⟨[]⟩, .func (.func G) ⟨[]⟩ ⟨[]⟩] := fun {_ _} => RdW.blkB hm hf (fun j u hu => by
      match j, hu with
      | 0, hu => simp at hu; subst hu; rw [show 0 + (i : Int).toNat * 2 + 0 = i * 2 by omega]; exact hF
      | 1, hu => simp at hu; subst hu; rw [show 0 + (i : Int).toNat * 2 + 1 = i * 2 + 1 by omega]; exact hG)
    refine At.run 100 true [true] [hR [.func (.func F) ⟨[]⟩ ⟨[]⟩, .func (.func G) ⟨[]⟩ ⟨[]⟩]] rfl (by (repeat' apply And.intro) <;> first | exact hld | exact True.intro | omega | rfl | (simp only [inK]; omega) | exact decide_eq_true (by omega) | exact decide_eq_false (by omega) | (simp; done) | (simp; omega) | (simp [Value.oneCell']; done) | exact i64s_one _ | exact AggOk.mk (by kernel_rfl) (by kernel_rfl)) ?_
    refine At.step [] rfl rfl rfl rfl rfl trivial (OpOk.alloc (cs := [.nilFunc, .nilFunc]) rfl (by kernel_rfl) fun b8 hb8 => ?_)
    refine At.run 100 true [] [hB 0] rfl (by (repeat' apply And.intro) <;> first | exact True.intro | omega | (simp only [inK]; omega) | (simp; done) | (simp; omega) | exact decide_eq_true (by omega) | exact decide_eq_false (by omega) | rfl | (simp [Value.oneCell']; done) | exact i64s_one _ | exact AggOk.mk (by kernel_rfl) (by kernel_rfl)) ?_
    refine At.nilRow 2 1 ?_
    refine At.loop (n := l.length) (env0 := [(0, sv og' (out ++ putB i l).length oc'), (1, .slice a l.length cap), (8, .pointer (some ⟨b8, 0, none⟩)), (9, sv none 0 0), (14, .slice (some ⟨gf, 0, none⟩) 3 3), (15, .int .i64 3), (16, .int .i64 i), (20, .slice a l.length cap), (21, .int .i64 l.length), (22, .int .i64 0)])
      (fun m env bx hp => ∃ (j : Nat) (cg : Option Nat) (cc : Nat), m = l.length - j ∧ j ≤ l.length ∧
        env = [(0, sv og' (out ++ putB i l).length oc'), (1, .slice a l.length cap), (8, .pointer (some ⟨b8, 0, none⟩)), (9, sv cg j cc), (14, .slice (some ⟨gf, 0, none⟩) 3 3), (15, .int .i64 3), (16, .int .i64 i), (20, .slice a l.length cap), (21, .int .i64 l.length), (22, .int .i64 j)] ∧
        bx = [(b8, 109, [.func (.func F) ⟨[]⟩ ⟨[]⟩, .func (.func G) ⟨[]⟩ ⟨[]⟩])] ∧ hp = [Seg.row cg 2 1 j cc (i64s (colOf (l.take j) i)), Seg.row og' 5 1 (out ++ putB i l).length oc' (u8s (out ++ putB i l))]) rfl
      ⟨0, none, 0, rfl, by omega, rfl, rfl, rfl⟩ ⟨rfl, rfl, rfl, rfl, rfl, rfl, rfl, rfl, rfl, rfl, trivial⟩ ?_
    rintro m env bx hp ⟨j, cg, cc, rfl, hj, rfl, rfl, rfl⟩ ih2
    by_cases hjl : j < l.length
    · obtain ⟨x, hx⟩ : ∃ x, l[j]? = some x := ⟨_, List.getElem?_eq_getElem hjl⟩
      have hmx := List.mem_of_getElem? hx
      obtain ⟨g, oo, rfl, hc⟩ := hrow.get (slNe (by decide) hl.len hx)
      have r1 : ∀ {bx : Bx} {hp : List Seg}, RdW ⟨w, kys [] [Seg.row og 5 1 out.length oc (u8s out)]⟩ bx hp g (oo + (j : Int).toNat * 3) (i64s x) := fun {_ _} => RdW.rec hl.len hc (hma g (mem_slR (slNe (by decide) hl.len hx))) hx (by omega)
      have hcol : colOf (l.take (j + 1)) i = colOf (l.take j) i ++ [nthI x i] := by rw [List.take_add_one, hx]; simp [colOf]
      have hgx := fun w' => hget x w' (hl.len x hmx)
      generalize nthI x i = q at *
      obtain ⟨x0, x1, x2, rfl⟩ := len3 (hl.len x hmx)
      refine At.run 100 true [true] [hR [.int .i64 x0, .int .i64 x1, .int .i64 x2]] rfl (by (repeat' apply And.intro) <;> first | exact r1 | exact True.intro | omega | rfl | (simp only [inK]; omega) | exact decide_eq_true (by omega) | exact decide_eq_false (by omega) | (simp; done) | (simp; omega) | (simp [Value.oneCell']; done) | exact i64s_one _ | exact AggOk.mk (by kernel_rfl) (by kernel_rfl)) ?_
      refine At.step [] rfl rfl rfl rfl rfl trivial (OpOk.alloc (cs := i64s [0, 0, 0]) rfl (by kernel_rfl) fun b11 hb11 => ?_)
      refine At.run 100 true [] [hB 0, hB 1, hB 0, hC (.int .i64 q)] rfl (by (repeat' apply And.intro) <;> first | exact fun w' _ => hgx w' | exact True.intro | omega | rfl | (simp only [inK]; omega) | exact decide_eq_true (by omega) | exact decide_eq_false (by omega) | (simp; done) | (simp; omega) | (simp [Value.oneCell']; done) | exact i64s_one _ | exact AggOk.mk (by kernel_rfl) (by kernel_rfl)) ?_
      refine At.append1 0 1 8 rfl rfl rfl rfl rfl rfl rfl rfl rfl trivial (fun _ => rfl) trivial rfl rfl rfl rfl rfl rfl rfl rfl (fun _ => rfl) (by simp [Value.oneCell']) (by omega) (by omega) (fun bb a2 cap2 => ?_)
      refine At.run 100 true [] [] rfl (by (repeat' apply And.intro) <;> first | exact True.intro | omega | (simp only [inK]; omega) | (simp; done) | (simp; omega) | exact decide_eq_true (by omega) | exact decide_eq_false (by omega) | rfl | (simp [Value.oneCell']; done) | exact i64s_one _ | exact AggOk.mk (by kernel_rfl) (by kernel_rfl)) ?_
      refine At.keep [false, true] [true, true] rfl ?_
      refine At.weak (ih2 (l.length - (j + 1)) _ _ _ (by omega) ⟨j + 1, a2, cap2, rfl, by omega, rfl, rfl, ?_⟩) ⟨rfl, rfl, rfl, rfl, rfl, rfl, rfl, rfl, rfl, some_int_eq (by omega), trivial⟩
      rw [hcol]; simp [setL, i64s]
    · have : j = l.length := by omega
      subst this
      rw [List.take_length]
      have hcl := colOf_len l i
      have hcp : ∀ {bx : Bx} {hp : List Seg}, CallOb Tryz.prog ⟨w, kys [] [Seg.row og 5 1 out.length oc (u8s out)]⟩ bx (Seg.row cg 2 1 l.length cc (i64s (colOf l i)) :: hp) 52 [sv cg l.length cc] (.tuple #[str (colL (colOf l i)), .int .i64 0]) := fun {bx hp} w' hw' => by
        have := Tryz.Put_w (colOf l i) (svA cg) cc w' (by omega) (SlOk.row (hw'.hp (Seg.row cg 2 1 l.length cc (i64s (colOf l i))) (by simp)))
        rw [hcl] at this; exact this
      have hcll := colL_len (colOf l i) (colOf_in hl i) (by omega)
      refine At.run 100 true [false] [hC (.tuple #[str (colL (colOf l i)), .int .i64 0])] rfl (by (repeat' apply And.intro) <;> first | exact hcp | exact True.intro | omega | rfl | (simp only [inK]; omega) | exact decide_eq_true (by omega) | exact decide_eq_false (by omega) | (simp; done) | (simp; omega) | (simp [Value.oneCell']; done) | exact i64s_one _ | exact AggOk.mk (by kernel_rfl) (by kernel_rfl)) ?_
      refine At.step [] rfl rfl rfl rfl rfl trivial (OpOk.appendStr 1 rfl rfl rfl rfl rfl rfl rfl (by rw [bl_mk]; omega) fun a3 cap3 => ?_)
      rw [bl_mk]
      refine At.run 100 true [] [] rfl (by (repeat' apply And.intro) <;> first | exact True.intro | omega | (simp only [inK]; omega) | (simp; done) | (simp; omega) | exact decide_eq_true (by omega) | exact decide_eq_false (by omega) | rfl | (simp [Value.oneCell']; done) | exact i64s_one _ | exact AggOk.mk (by kernel_rfl) (by kernel_rfl)) ?_
      refine At.keep [] [false, true] rfl ?_
      refine At.weak (ih (3 - (i + 1)) _ _ _ (by omega) ⟨i + 1, a3, cap3, rfl, by omega, rfl, rfl, ?_⟩) ⟨some_sv_eq (by rw [putB_succ]; simp only [List.length_append]; omega), rfl, rfl, rfl, some_int_eq (by omega), trivial⟩
      rw [putB_succ]; simp only [setL, u8s_append, List.length_append, List.append_assoc, Nat.add_assoc]
  · have : i = 3 := by omega
    subst this
    refine At.run 100 true [false] [] rfl (by (repeat' apply And.intro) <;> first | exact True.intro | omega | (simp only [inK]; omega) | (simp; done) | (simp; omega) | exact decide_eq_true (by omega) | exact decide_eq_false (by omega) | rfl | (simp [Value.oneCell']; done) | exact i64s_one _ | exact AggOk.mk (by kernel_rfl) (by kernel_rfl)) ?_
    exact At.ret [] rfl Tryz.func18 rfl trivial ⟨og', oc', rfl, rfl, rfl⟩

end Go.Proofs

/-
  Walks of layer 13: books put.
-/
namespace Go.Proofs
open Go Go.Eng
set_option maxRecDepth 100000
set_option maxHeartbeats 4000000
attribute [local irreducible] Tri


theorem Tryz.opens1_w : GetOk Tryz.prog 6 0 67 := by
  intro x w hx
  obtain ⟨x0, x1, x2, x3, x4, x5, rfl⟩ := len6 hx
  refine Tri.enter (bx := []) (hp := []) Tryz.func67 rfl (by kernel_rfl) rfl (Own.nil w) ?_
  refine At.run 100 true [] [] rfl trivial ?_
  refine At.step [] rfl rfl rfl rfl rfl trivial (OpOk.box rfl rfl rfl fun bq hbq => ?_)
  refine At.run 100 true [] [hB 0] rfl (by (repeat' apply And.intro) <;> first | exact True.intro | omega | (simp only [inK]; omega) | (simp; done) | (simp; omega) | exact decide_eq_true (by omega) | exact decide_eq_false (by omega) | rfl | (simp [Value.oneCell']; done) | exact i64s_one _ | exact AggOk.mk (by kernel_rfl) (by kernel_rfl)) ?_
  exact At.retK [] [] [] rfl rfl Tryz.func67 rfl trivial ⟨rfl, rfl, rfl⟩

theorem Tryz.opens3_w : GetOk Tryz.prog 6 1 69 := by
  intro x w hx
  obtain ⟨x0, x1, x2, x3, x4, x5, rfl⟩ := len6 hx
  refine Tri.enter (bx := []) (hp := []) Tryz.func69 rfl (by kernel_rfl) rfl (Own.nil w) ?_
  refine At.run 100 true [] [] rfl trivial ?_
  refine At.step [] rfl rfl rfl rfl rfl trivial (OpOk.box rfl rfl rfl fun bq hbq => ?_)
  refine At.run 100 true [] [hB 0] rfl (by (repeat' apply And.intro) <;> first | exact True.intro | omega | (simp only [inK]; omega) | (simp; done) | (simp; omega) | exact decide_eq_true (by omega) | exact decide_eq_false (by omega) | rfl | (simp [Value.oneCell']; done) | exact i64s_one _ | exact AggOk.mk (by kernel_rfl) (by kernel_rfl)) ?_
  exact At.retK [] [] [] rfl rfl Tryz.func69 rfl trivial ⟨rfl, rfl, rfl⟩

theorem Tryz.opens5_w : GetOk Tryz.prog 6 2 71 := by
  intro x w hx
  obtain ⟨x0, x1, x2, x3, x4, x5, rfl⟩ := len6 hx
  refine Tri.enter (bx := []) (hp := []) Tryz.func71 rfl (by kernel_rfl) rfl (Own.nil w) ?_
  refine At.run 100 true [] [] rfl trivial ?_
  refine At.step [] rfl rfl rfl rfl rfl trivial (OpOk.box rfl rfl rfl fun bq hbq => ?_)
  refine At.run 100 true [] [hB 0] rfl (by (repeat' apply And.intro) <;> first | exact True.intro | omega | (simp only [inK]; omega) | (simp; done) | (simp; omega) | exact decide_eq_true (by omega) | exact decide_eq_false (by omega) | rfl | (simp [Value.oneCell']; done) | exact i64s_one _ | exact AggOk.mk (by kernel_rfl) (by kernel_rfl)) ?_
  exact At.retK [] [] [] rfl rfl Tryz.func71 rfl trivial ⟨rfl, rfl, rfl⟩

theorem Tryz.opens7_w : GetOk Tryz.prog 6 3 73 := by
  intro x w hx
  obtain ⟨x0, x1, x2, x3, x4, x5, rfl⟩ := len6 hx
  refine Tri.enter (bx := []) (hp := []) Tryz.func73 rfl (by kernel_rfl) rfl (Own.nil w) ?_
  refine At.run 100 true [] [] rfl trivial ?_
  refine At.step [] rfl rfl rfl rfl rfl trivial (OpOk.box rfl rfl rfl fun bq hbq => ?_)
  refine At.run 100 true [] [hB 0] rfl (by (repeat' apply And.intro) <;> first | exact True.intro | omega | (simp only [inK]; omega) | (simp; done) | (simp; omega) | exact decide_eq_true (by omega) | exact decide_eq_false (by omega) | rfl | (simp [Value.oneCell']; done) | exact i64s_one _ | exact AggOk.mk (by kernel_rfl) (by kernel_rfl)) ?_
  exact At.retK [] [] [] rfl rfl Tryz.func73 rfl trivial ⟨rfl, rfl, rfl⟩

theorem Tryz.opens9_w : GetOk Tryz.prog 6 4 75 := by
  intro x w hx
  obtain ⟨x0, x1, x2, x3, x4, x5, rfl⟩ := len6 hx
  refine Tri.enter (bx := []) (hp := []) Tryz.func75 rfl (by kernel_rfl) rfl (Own.nil w) ?_
  refine At.run 100 true [] [] rfl trivial ?_
  refine At.step [] rfl rfl rfl rfl rfl trivial (OpOk.box rfl rfl rfl fun bq hbq => ?_)
  refine At.run 100 true [] [hB 0] rfl (by (repeat' apply And.intro) <;> first | exact True.intro | omega | (simp only [inK]; omega) | (simp; done) | (simp; omega) | exact decide_eq_true (by omega) | exact decide_eq_false (by omega) | rfl | (simp [Value.oneCell']; done) | exact i64s_one _ | exact AggOk.mk (by kernel_rfl) (by kernel_rfl)) ?_
  exact At.retK [] [] [] rfl rfl Tryz.func75 rfl trivial ⟨rfl, rfl, rfl⟩

theorem Tryz.opens11_w : GetOk Tryz.prog 6 5 77 := by
  intro x w hx
  obtain ⟨x0, x1, x2, x3, x4, x5, rfl⟩ := len6 hx
  refine Tri.enter (bx := []) (hp := []) Tryz.func77 rfl (by kernel_rfl) rfl (Own.nil w) ?_
  refine At.run 100 true [] [] rfl trivial ?_
  refine At.step [] rfl rfl rfl rfl rfl trivial (OpOk.box rfl rfl rfl fun bq hbq => ?_)
  refine At.run 100 true [] [hB 0] rfl (by (repeat' apply And.intro) <;> first | exact True.intro | omega | (simp only [inK]; omega) | (simp; done) | (simp; omega) | exact decide_eq_true (by omega) | exact decide_eq_false (by omega) | rfl | (simp [Value.oneCell']; done) | exact i64s_one _ | exact AggOk.mk (by kernel_rfl) (by kernel_rfl)) ?_
  exact At.retK [] [] [] rfl rfl Tryz.func77 rfl trivial ⟨rfl, rfl, rfl⟩

def Tryz.opensL : List Value := [.func (.func 67) ⟨[]⟩ ⟨[]⟩, .func (.func 68) ⟨[]⟩ ⟨[]⟩, .func (.func 69) ⟨[]⟩ ⟨[]⟩, .func (.func 70) ⟨[]⟩ ⟨[]⟩, .func (.func 71) ⟨[]⟩ ⟨[]⟩, .func (.func 72) ⟨[]⟩ ⟨[]⟩, .func (.func 73) ⟨[]⟩ ⟨[]⟩, .func (.func 74) ⟨[]⟩ ⟨[]⟩, .func (.func 75) ⟨[]⟩ ⟨[]⟩, .func (.func 76) ⟨[]⟩ ⟨[]⟩, .func (.func 77) ⟨[]⟩ ⟨[]⟩, .func (.func 78) ⟨[]⟩ ⟨[]⟩]

theorem Tryz.opens_w (w : World) : Tri Tryz.prog 21 [] w [] (fun v bx hp => ∃ b, v = sv (some b) 6 6 ∧ bx = [(b, 114, Tryz.opensL)] ∧ hp = []) := by
  refine Tri.enter (bx := []) (hp := []) Tryz.func21 rfl (by kernel_rfl) rfl (Own.nil w) ?_
  refine At.run 100 true [] [] rfl trivial ?_
  refine At.step [] rfl rfl rfl rfl rfl trivial (OpOk.buildSlice rfl rfl rfl rfl rfl rfl rfl (fun b hb => ?_))
  refine At.run 100 true [] [] rfl (by (repeat' apply And.intro) <;> first | exact True.intro | omega | (simp only [inK]; omega) | (simp; done) | (simp; omega) | exact decide_eq_true (by omega) | exact decide_eq_false (by omega) | rfl | (simp [Value.oneCell']; done) | exact i64s_one _ | exact AggOk.mk (by kernel_rfl) (by kernel_rfl)) ?_
  exact At.ret [] rfl Tryz.func21 rfl trivial ⟨b, rfl, rfl, rfl⟩

theorem Tryz.opensL_get (i : Nat) (hi : i < 6) : ∃ F G, Tryz.opensL[i * 2]? = some (.func (.func F) ⟨[]⟩ ⟨[]⟩) ∧ Tryz.opensL[i * 2 + 1]? = some (.func (.func G) ⟨[]⟩ ⟨[]⟩) ∧ GetOk Tryz.prog 6 i F := by
  match i, hi with
  | 0, _ => exact ⟨_, _, rfl, rfl, Tryz.opens1_w⟩
  | 1, _ => exact ⟨_, _, rfl, rfl, Tryz.opens3_w⟩
  | 2, _ => exact ⟨_, _, rfl, rfl, Tryz.opens5_w⟩
  | 3, _ => exact ⟨_, _, rfl, rfl, Tryz.opens7_w⟩
  | 4, _ => exact ⟨_, _, rfl, rfl, Tryz.opens9_w⟩
  | 5, _ => exact ⟨_, _, rfl, rfl, Tryz.opens11_w⟩

theorem Tryz.snapPutOpen_w (out : List UInt8) (og : Option Nat) (oc : Nat) (l : List (List Int)) (a : Option Addr) (cap gf : Nat) (w : World) (hl : Recs 6 l) (hlen : l.length ≤ 65536) (hob : out.length ≤ 1000000000) (hrow : SlOk w a (l.flatMap i64s))
    (hf : w.heap[gf]? = some (.cells Tryz.opensL.toArray 114 (0, 0))) (hown : Own [] [Seg.row og 5 1 out.length oc (u8s out)] w) (hm : gf ∉ kys [] [Seg.row og 5 1 out.length oc (u8s out)]) (hma : ∀ k, k ∈ slR a (l.flatMap i64s) → k ∉ kys [] [Seg.row og 5 1 out.length oc (u8s out)]) :
    Tri Tryz.prog 20 [sv og out.length oc, .slice a l.length cap, sv (some gf) 6 6] w (kys [] [Seg.row og 5 1 out.length oc (u8s out)])
      (fun v bx hp => ∃ og' oc', v = sv og' (out ++ putB 6 l).length oc' ∧ bx = [] ∧ hp = [Seg.row og' 5 1 (out ++ putB 6 l).length oc' (u8s (out ++ putB 6 l))]) := by
  refine Tri.enter Tryz.func20 rfl (by kernel_rfl) rfl hown ?_
  have hpl := putB_len hl hlen
  refine At.run 100 true [] [] rfl trivial ?_
  refine At.loop (n := 6) (env0 := [(0, sv og out.length oc), (1, .slice a l.length cap), (14, .slice (some ⟨gf, 0, none⟩) 6 6), (15, .int .i64 6), (16, .int .i64 0)]) (fun m env bx hp => ∃ (i : Nat) (og' : Option Nat) (oc' : Nat), m = 6 - i ∧ i ≤ 6 ∧
    env = [(0, sv og' (out ++ putB i l).length oc'), (1, .slice a l.length cap), (14, .slice (some ⟨gf, 0, none⟩) 6 6), (15, .int .i64 6), (16, .int .i64 i)] ∧ bx = [] ∧ hp = [Seg.row og' 5 1 (out ++ putB i l).length oc' (u8s (out ++ putB i l))]) rfl
    ⟨0, og, oc, rfl, by omega, by simp [putB], rfl, by simp [putB]⟩ ⟨rfl, rfl, rfl, rfl, rfl, trivial⟩ ?_
  rintro m env bx hp ⟨i, og', oc', rfl, hi, rfl, rfl, rfl⟩ ih
  have hpi := hpl i
  have hbnd : (out ++ putB i l).length ≤ 1000000000 + 6 * (10 + 20 * 65536) := by
    rw [List.length_append]
    have : i * (10 + 20 * l.length) ≤ 6 * (10 + 20 * 65536) := Nat.mul_le_mul hi (by omega)
    omega
  by_cases hlt : i < 6
  · obtain ⟨F, G, hF, hG, hget⟩ := Tryz.opensL_get i hlt
    have hld : ∀ {bx : Bx} {hp : List Seg}, RdW ⟨w, kys [] [Seg.row og 5 1 out.length oc (u8s out)]⟩ bx hp gf (0 + (i : Int).toNat * 2) [.func (.func F) ⟨[]⟩ ⟨[]⟩, .func (.func G) ⟨[]⟩ ⟨[]⟩] := fun {_ _} => RdW.blkB hm hf (fun j u hu => by
      match j, hu with
      | 0, hu => simp at hu; subst hu; rw [show 0 + (i : Int).toNat * 2 + 0 = i * 2 by omega]; exact hF
      | 1, hu => simp at hu; subst hu; rw [show 0 + (i : Int).toNat * 2 + 1 = i * 2 + 1 by omega]; exact hG)
    refine At.run 100 true [true] [hR [.func (.func F) ⟨[]⟩ ⟨[]⟩, .func (.func G) ⟨[]⟩ ⟨[]⟩]] rfl (by (repeat' apply And.intro) <;> first | exact hld | exact True.intro | omega | rfl | (simp only [inK]; omega) | exact decide_eq_true (by omega) | exact decide_eq_false (by omega) | (simp; done) | (simp; omega) | (simp [Value.oneCell']; done) | exact i64s_one _ | exact AggOk.mk (by kernel_rfl) (by kernel_rfl)) ?_
    refine At.step [] rfl rfl rfl rfl rfl trivial (OpOk.alloc (cs := [.nilFunc, .nilFunc]) rfl (by kernel_rfl) fun b8 hb8 => ?_)
    refine At.run 100 true [] [hB 0] rfl (by (repeat' apply And.intro) <;> first | exact True.intro | omega | (simp only [inK]; omega) | (simp; done) | (simp; omega) | exact decide_eq_true (by omega) | exact decide_eq_false (by omega) | rfl | (simp [Value.oneCell']; done) | exact i64s_one _ | exact AggOk.mk (by kernel_rfl) (by kernel_rfl)) ?_
    refine At.nilRow 2 1 ?_
    refine At.loop (n := l.length) (env0 := [(0, sv og' (out ++ putB i l).length oc'), (1, .slice a l.length cap), (8, .pointer (some ⟨b8, 0, none⟩)), (9, sv none 0 0), (14, .slice (some ⟨gf, 0, none⟩) 6 6), (15, .int .i64 6), (16, .int .i64 i), (20, .slice a l.length cap), (21, .int .i64 l.length), (22, .int .i64 0)])
      (fun m env bx hp => ∃ (j : Nat) (cg : Option Nat) (cc : Nat), m = l.length - j ∧ j ≤ l.length ∧
        env = [(0, sv og' (out ++ putB i l).length oc'), (1, .slice a l.length cap), (8, .pointer (some ⟨b8, 0, none⟩)), (9, sv cg j cc), (14, .slice (some ⟨gf, 0, none⟩) 6 6), (15, .int .i64 6), (16, .int .i64 i), (20, .slice a l.length cap), (21, .int .i64 l.length), (22, .int .i64 j)] ∧
        bx = [(b8, 114, [.func (.func F) ⟨[]⟩ ⟨[]⟩, .func (.func G) ⟨[]⟩ ⟨[]⟩])] ∧ hp = [Seg.row cg 2 1 j cc (i64s (colOf (l.take j) i)), Seg.row og' 5 1 (out ++ putB i l).length oc' (u8s (out ++ putB i l))]) rfl
      ⟨0, none, 0, rfl, by omega, rfl, rfl, rfl⟩ ⟨rfl, rfl, rfl, rfl, rfl, rfl, rfl, rfl, rfl, rfl, trivial⟩ ?_
    rintro m env bx hp ⟨j, cg, cc, rfl, hj, rfl, rfl, rfl⟩ ih2
    by_cases hjl : j < l.length
    · obtain ⟨x, hx⟩ : ∃ x, l[j]? = some x := ⟨_, List.getElem?_eq_getElem hjl⟩
      have hmx := List.mem_of_getElem? hx
      obtain ⟨g, oo, rfl, hc⟩ := hrow.get (slNe (by decide) hl.len hx)
      have r1 : ∀ {bx : Bx} {hp : List Seg}, RdW ⟨w, kys [] [Seg.row og 5 1 out.length oc (u8s out)]⟩ bx hp g (oo + (j : Int).toNat * 6) (i64s x) := fun {_ _} => RdW.rec hl.len hc (hma g (mem_slR (slNe (by decide) hl.len hx))) hx (by omega)
      have hcol : colOf (l.take (j + 1)) i = colOf (l.take j) i ++ [nthI x i] := by rw [List.take_add_one, hx]; simp [colOf]
      have hgx := fun w' => hget x w' (hl.len x hmx)
      generalize nthI x i = q at *
      obtain ⟨x0, x1, x2, x3, x4, x5, rfl⟩ := len6 (hl.len x hmx)
      refine At.run 100 true [true] [hR [.int .i64 x0, .int .i64 x1, .int .i64 x2, .int .i64 x3, .int .i64 x4, .int .i64 x5]] rfl (by (repeat' apply And.intro) <;> first | exact r1 | exact True.intro | omega | rfl | (simp only [inK]; omega) | exact decide_eq_true (by omega) | exact decide_eq_false (by omega) | (simp; done) | (simp; omega) | (simp [Value.oneCell']; done) | exact i64s_one _ | exact AggOk.mk (by kernel_rfl) (by kernel_rfl)) ?_
      refine At.step [] rfl rfl rfl rfl rfl trivial (OpOk.alloc (cs := i64s [0, 0, 0, 0, 0, 0]) rfl (by kernel_rfl) fun b11 hb11 => ?_)
      refine At.run 100 true [] [hB 0, hB 1, hB 0, hC (.int .i64 q)] rfl (by (repeat' apply And.intro) <;> first | exact fun w' _ => hgx w' | exact True.intro | omega | rfl | (simp only [inK]; omega) | exact decide_eq_true (by omega) | exact decide_eq_false (by omega) | (simp; done) | (simp; omega) | (simp [Value.oneCell']; done) | exact i64s_one _ | exact AggOk.mk (by kernel_rfl) (by kernel_rfl)) ?_
      refine At.append1 0 1 8 rfl rfl rfl rfl rfl rfl rfl rfl rfl trivial (fun _ => rfl) trivial rfl rfl rfl rfl rfl rfl rfl rfl (fun _ => rfl) (by simp [Value.oneCell']) (by omega) (by omega) (fun bb a2 cap2 => ?_)
      refine At.run 100 true [] [] rfl (by (repeat' apply And.intro) <;> first | exact True.intro | omega | (simp only [inK]; omega) | (simp; done) | (simp; omega) | exact decide_eq_true (by omega) | exact decide_eq_false (by omega) | rfl | (simp [Value.oneCell']; done) | exact i64s_one _ | exact AggOk.mk (by kernel_rfl) (by kernel_rfl)) ?_
      refine At.keep [false, true] [true, true] rfl ?_
      refine At.weak (ih2 (l.length - (j + 1)) _ _ _ (by omega) ⟨j + 1, a2, cap2, rfl, by omega, rfl, rfl, ?_⟩) ⟨rfl, rfl, rfl, rfl, rfl, rfl, rfl, rfl, rfl, some_int_eq (by omega), trivial⟩
      rw [hcol]; simp [setL, i64s]
    · have : j = l.length := by omega
      subst this
      rw [List.take_length]
      have hcl := colOf_len l i
      have hcp : ∀ {bx : Bx} {hp : List Seg}, CallOb Tryz.prog ⟨w, kys [] [Seg.row og 5 1 out.length oc (u8s out)]⟩ bx (Seg.row cg 2 1 l.length cc (i64s (colOf l i)) :: hp) 52 [sv cg l.length cc] (.tuple #[str (colL (colOf l i)), .int .i64 0]) := fun {bx hp} w' hw' => by
        have := Tryz.Put_w (colOf l i) (svA cg) cc w' (by omega) (SlOk.row (hw'.hp (Seg.row cg 2 1 l.length cc (i64s (colOf l i))) (by simp)))
        rw [hcl] at this; exact this
      have hcll := colL_len (colOf l i) (colOf_in hl i) (by omega)
      refine At.run 100 true [false] [hC (.tuple #[str (colL (colOf l i)), .int .i64 0])] rfl (by (repeat' apply And.intro) <;> first | exact hcp | exact True.intro | omega | rfl | (simp only [inK]; omega) | exact decide_eq_true (by omega) | exact decide_eq_false (by omega) | (simp; done) | (simp; omega) | (simp [Value.oneCell']; done) | exact i64s_one _ | exact AggOk.mk (by kernel_rfl) (by kernel_rfl)) ?_
      refine At.step [] rfl rfl rfl rfl rfl trivial (OpOk.appendStr 1 rfl rfl rfl rfl rfl rfl rfl (by rw [bl_mk]; omega) fun a3 cap3 => ?_)
      rw [bl_mk]
      refine At.run 100 true [] [] rfl (by (repeat' apply And.intro) <;> first | exact True.intro | omega | (simp only [inK]; omega) | (simp; done) | (simp; omega) | exact decide_eq_true (by omega) | exact decide_eq_false (by omega) | rfl | (simp [Value.oneCell']; done) | exact i64s_one _ | exact AggOk.mk (by kernel_rfl) (by kernel_rfl)) ?_
      refine At.keep [] [false, true] rfl ?_
      refine At.weak (ih (6 - (i + 1)) _ _ _ (by omega) ⟨i + 1, a3, cap3, rfl, by omega, rfl, rfl, ?_⟩) ⟨some_sv_eq (by rw [putB_succ]; simp only [List.length_append]; omega), rfl, rfl, rfl, some_int_eq (by omega), trivial⟩
      rw [putB_succ]; simp only [setL, u8s_append, List.length_append, List.append_assoc, Nat.add_assoc]
  · have : i = 6 := by omega
    subst this
    refine At.run 100 true [false] [] rfl (by (repeat' apply And.intro) <;> first | exact True.intro | omega | (simp only [inK]; omega) | (simp; done) | (simp; omega) | exact decide_eq_true (by omega) | exact decide_eq_false (by omega) | rfl | (simp [Value.oneCell']; done) | exact i64s_one _ | exact AggOk.mk (by kernel_rfl) (by kernel_rfl)) ?_
    exact At.ret [] rfl Tryz.func20 rfl trivial ⟨og', oc', rfl, rfl, rfl⟩

end Go.Proofs

/-
  Walks of layer 13: books put.
-/
namespace Go.Proofs
open Go Go.Eng
set_option maxRecDepth 100000
set_option maxHeartbeats 4000000
attribute [local irreducible] Tri


theorem Tryz.rates1_w : GetOk Tryz.prog 2 0 79 := by
  intro x w hx
  obtain ⟨x0, x1, rfl⟩ := len2 hx
  refine Tri.enter (bx := []) (hp := []) Tryz.func79 rfl (by kernel_rfl) rfl (Own.nil w) ?_
  refine At.run 100 true [] [] rfl trivial ?_
  refine At.step [] rfl rfl rfl rfl rfl trivial (OpOk.box rfl rfl rfl fun bq hbq => ?_)
  refine At.run 100 true [] [hB 0] rfl (by (repeat' apply And.intro) <;> first | exact True.intro | omega | (simp only [inK]; omega) | (simp; done) | (simp; omega) | exact decide_eq_true (by omega) | exact decide_eq_false (by omega) | rfl | (simp [Value.oneCell']; done) | exact i64s_one _ | exact AggOk.mk (by kernel_rfl) (by kernel_rfl)) ?_
  exact At.retK [] [] [] rfl rfl Tryz.func79 rfl trivial ⟨rfl, rfl, rfl⟩

theorem Tryz.rates3_w : GetOk Tryz.prog 2 1 81 := by
  intro x w hx
  obtain ⟨x0, x1, rfl⟩ := len2 hx
  refine Tri.enter (bx := []) (hp := []) Tryz.func81 rfl (by kernel_rfl) rfl (Own.nil w) ?_
  refine At.run 100 true [] [] rfl trivial ?_
  refine At.step [] rfl rfl rfl rfl rfl trivial (OpOk.box rfl rfl rfl fun bq hbq => ?_)
  refine At.run 100 true [] [hB 0] rfl (by (repeat' apply And.intro) <;> first | exact True.intro | omega | (simp only [inK]; omega) | (simp; done) | (simp; omega) | exact decide_eq_true (by omega) | exact decide_eq_false (by omega) | rfl | (simp [Value.oneCell']; done) | exact i64s_one _ | exact AggOk.mk (by kernel_rfl) (by kernel_rfl)) ?_
  exact At.retK [] [] [] rfl rfl Tryz.func81 rfl trivial ⟨rfl, rfl, rfl⟩

def Tryz.ratesL : List Value := [.func (.func 79) ⟨[]⟩ ⟨[]⟩, .func (.func 80) ⟨[]⟩ ⟨[]⟩, .func (.func 81) ⟨[]⟩ ⟨[]⟩, .func (.func 82) ⟨[]⟩ ⟨[]⟩]

theorem Tryz.rates_w (w : World) : Tri Tryz.prog 23 [] w [] (fun v bx hp => ∃ b, v = sv (some b) 2 2 ∧ bx = [(b, 119, Tryz.ratesL)] ∧ hp = []) := by
  refine Tri.enter (bx := []) (hp := []) Tryz.func23 rfl (by kernel_rfl) rfl (Own.nil w) ?_
  refine At.run 100 true [] [] rfl trivial ?_
  refine At.step [] rfl rfl rfl rfl rfl trivial (OpOk.buildSlice rfl rfl rfl rfl rfl rfl rfl (fun b hb => ?_))
  refine At.run 100 true [] [] rfl (by (repeat' apply And.intro) <;> first | exact True.intro | omega | (simp only [inK]; omega) | (simp; done) | (simp; omega) | exact decide_eq_true (by omega) | exact decide_eq_false (by omega) | rfl | (simp [Value.oneCell']; done) | exact i64s_one _ | exact AggOk.mk (by kernel_rfl) (by kernel_rfl)) ?_
  exact At.ret [] rfl Tryz.func23 rfl trivial ⟨b, rfl, rfl, rfl⟩

theorem Tryz.ratesL_get (i : Nat) (hi : i < 2) : ∃ F G, Tryz.ratesL[i * 2]? = some (.func (.func F) ⟨[]⟩ ⟨[]⟩) ∧ Tryz.ratesL[i * 2 + 1]? = some (.func (.func G) ⟨[]⟩ ⟨[]⟩) ∧ GetOk Tryz.prog 2 i F := by
  match i, hi with
  | 0, _ => exact ⟨_, _, rfl, rfl, Tryz.rates1_w⟩
  | 1, _ => exact ⟨_, _, rfl, rfl, Tryz.rates3_w⟩

theorem Tryz.snapPutRate_w (out : List UInt8) (og : Option Nat) (oc : Nat) (l : List (List Int)) (a : Option Addr) (cap gf : Nat) (w : World) (hl : Recs 2 l) (hlen : l.length ≤ 65536) (hob : out.length ≤ 1000000000) (hrow : SlOk w a (l.flatMap i64s))
    (hf : w.heap[gf]? = some (.cells Tryz.ratesL.toArray 119 (0, 0))) (hown : Own [] [Seg.row og 5 1 out.length oc (u8s out)] w) (hm : gf ∉ kys [] [Seg.row og 5 1 out.length oc (u8s out)]) (hma : ∀ k, k ∈ slR a (l.flatMap i64s) → k ∉ kys [] [Seg.row og 5 1 out.length oc (u8s out)]) :
    Tri Tryz.prog 22 [sv og out.length oc, .slice a l.length cap, sv (some gf) 2 2] w (kys [] [Seg.row og 5 1 out.length oc (u8s out)])
      (fun v bx hp => ∃ og' oc', v = sv og' (out ++ putB 2 l).length oc' ∧ bx = [] ∧ hp = [Seg.row og' 5 1 (out ++ putB 2 l).length oc' (u8s (out ++ putB 2 l))]) := by
  refine Tri.enter Tryz.func22 rfl (by kernel_rfl) rfl hown ?_
  have hpl := putB_len hl hlen
  refine At.run 100 true [] [] rfl trivial ?_
  refine At.loop (n := 2) (env0 := [(0, sv og out.length oc), (1, .slice a l.length cap), (14, .slice (some ⟨gf, 0, none⟩) 2 2), (15, .int .i64 2), (16, .int .i64 0)]) (fun m env bx hp => ∃ (i : Nat) (og' : Option Nat) (oc' : Nat), m = 2 - i ∧ i ≤ 2 ∧
    env = [(0, sv og' (out ++ putB i l).length oc'), (1, .slice a l.length cap), (14, .slice (some ⟨gf, 0, none⟩) 2 2), (15, .int .i64 2), (16, .int .i64 i)] ∧ bx = [] ∧ hp = [Seg.row og' 5 1 (out ++ putB i l).length oc' (u8s (out ++ putB i l))]) rfl
    ⟨0, og, oc, rfl, by omega, by simp [putB], rfl, by simp [putB]⟩ ⟨rfl, rfl, rfl, rfl, rfl, trivial⟩ ?_
  rintro m env bx hp ⟨i, og', oc', rfl, hi, rfl, rfl, rfl⟩ ih
  have hpi := hpl i
  have hbnd : (out ++ putB i l).length ≤ 1000000000 + 2 * (10 + 20 * 65536) := by
    rw [List.length_append]
    have : i * (10 + 20 * l.length) ≤ 2 * (10 + 20 * 65536) := Nat.mul_le_mul hi (by omega)
    omega
  by_cases hlt : i < 2
  · obtain ⟨F, G, hF, hG, hget⟩ := Tryz.ratesL_get i hlt
    have hld : ∀ {bx : Bx} {hp : List Seg}, RdW ⟨w, kys [] [Seg.row og 5 1 out.length oc (u8s out)]⟩ bx hp gf (0 + (i : Int).toNat * 2) [.func (.func F) ⟨[]⟩ ⟨[]⟩, .func (.func G) ⟨[]⟩ ⟨[]⟩] := fun {_ _} => RdW.blkB hm hf (fun j u hu => by
      match j, hu with
      | 0, hu => simp at hu; subst hu; rw [show 0 + (i : Int).toNat * 2 + 0 = i * 2 by omega]; exact hF
      | 1, hu => simp at hu; subst hu; rw [show 0 + (i : Int).toNat * 2 + 1 = i * 2 + 1 by omega]; exact hG)
    refine At.run 100 true [true] [hR [.func (.func F) ⟨[]⟩ ⟨[]⟩, .func (.func G) ⟨[]⟩ ⟨[]⟩]] rfl (by (repeat' apply And.intro) <;> first | exact hld | exact True.intro | omega | rfl | (simp only [inK]; omega) | exact decide_eq_true (by omega) | exact decide_eq_false (by omega) | (simp; done) | (simp; omega) | (simp [Value.oneCell']; done) | exact i64s_one _ | exact AggOk.mk (by kernel_rfl) (by kernel_rfl)) ?_
    refine At.step [] rfl rfl rfl rfl rfl trivial (OpOk.alloc (cs := [.nilFunc, .nilFunc]) rfl (by kernel_rfl) fun b8 hb8 => ?_)
    refine At.run 100 true [] [hB 0] rfl (by (repeat' apply And.intro) <;> first | exact True.intro | omega | (simp only [inK]; omega) | (simp; done) | (simp; omega) | exact decide_eq_true (by omega) | exact decide_eq_false (by omega) | rfl | (simp [Value.oneCell']; done) | exact i64s_one _ | exact AggOk.mk (by kernel_rfl) (by kernel_rfl)) ?_
    refine At.nilRow 2 1 ?_
    refine At.loop (n := l.length) (env0 := [(0, sv og' (out ++ putB i l).length oc'), (1, .slice a l.length cap), (8, .pointer (some ⟨b8, 0, none⟩)), (9, sv none 0 0), (14, .slice (some ⟨gf, 0, none⟩) 2 2), (15, .int .i64 2), (16, .int .i64 i), (20, .slice a l.length cap), (21, .int .i64 l.length), (22, .int .i64 0)])
      (fun m env bx hp => ∃ (j : Nat) (cg : Option Nat) (cc : Nat), m = l.length - j ∧ j ≤ l.length ∧
        env = [(0, sv og' (out ++ putB i l).length oc'), (1, .slice a l.length cap), (8, .pointer (some ⟨b8, 0, none⟩)), (9, sv cg j cc), (14, .slice (some ⟨gf, 0, none⟩) 2 2), (15, .int .i64 2), (16, .int .i64 i), (20, .slice a l.length cap), (21, .int .i64 l.length), (22, .int .i64 j)] ∧
        bx = [(b8, 119, [.func (.func F) ⟨[]⟩ ⟨[]⟩, .func (.func G) ⟨[]⟩ ⟨[]⟩])] ∧ hp = [Seg.row cg 2 1 j cc (i64s (colOf (l.take j) i)), Seg.row og' 5 1 (out ++ putB i l).length oc' (u8s (out ++ putB i l))]) rfl
      ⟨0, none, 0, rfl, by omega, rfl, rfl, rfl⟩ ⟨rfl, rfl, rfl, rfl, rfl, rfl, rfl, rfl, rfl, rfl, trivial⟩ ?_
    rintro m env bx hp ⟨j, cg, cc, rfl, hj, rfl, rfl, rfl⟩ ih2
    by_cases hjl : j < l.length
    · obtain ⟨x, hx⟩ : ∃ x, l[j]? = some x := ⟨_, List.getElem?_eq_getElem hjl⟩
      have hmx := List.mem_of_getElem? hx
      obtain ⟨g, oo, rfl, hc⟩ := hrow.get (slNe (by decide) hl.len hx)
      have r1 : ∀ {bx : Bx} {hp : List Seg}, RdW ⟨w, kys [] [Seg.row og 5 1 out.length oc (u8s out)]⟩ bx hp g (oo + (j : Int).toNat * 2) (i64s x) := fun {_ _} => RdW.rec hl.len hc (hma g (mem_slR (slNe (by decide) hl.len hx))) hx (by omega)
      have hcol : colOf (l.take (j + 1)) i = colOf (l.take j) i ++ [nthI x i] := by rw [List.take_add_one, hx]; simp [colOf]
      have hgx := fun w' => hget x w' (hl.len x hmx)
      generalize nthI x i = q at *
      obtain ⟨x0, x1, rfl⟩ := len2 (hl.len x hmx)
      refine At.run 100 true [true] [hR [.int .i64 x0, .int .i64 x1]] rfl (by (repeat' apply And.intro) <;> first | exact r1 | exact True.intro | omega | rfl | (simp only [inK]; omega) | exact decide_eq_true (by omega) | exact decide_eq_false (by omega) | (simp; done) | (simp; omega) | (simp [Value.oneCell']; done) | exact i64s_one _ | exact AggOk.mk (by kernel_rfl) (by kernel_rfl)) ?_
      refine At.step [] rfl rfl rfl rfl rfl trivial (OpOk.alloc (cs := i64s [0, 0]) rfl (by kernel_rfl) fun b11 hb11 => ?_)
      refine At.run 100 true [] [hB 0, hB 1, hB 0, hC (.int .i64 q)] rfl (by (repeat' apply And.intro) <;> first | exact fun w' _ => hgx w' | exact True.intro | omega | rfl | (simp only [inK]; omega) | exact decide_eq_true (by omega) | exact decide_eq_false (by omega) | (simp; done) | (simp; omega) | (simp [Value.oneCell']; done) | exact i64s_one _ | exact AggOk.mk (by kernel_rfl) (by kernel_rfl)) ?_
      refine At.append1 0 1 8 rfl rfl rfl rfl rfl rfl rfl rfl rfl trivial (fun _ => rfl) trivial rfl rfl rfl rfl rfl rfl rfl rfl (fun _ => rfl) (by simp [Value.oneCell']) (by omega) (by omega) (fun bb a2 cap2 => ?_)
      refine At.run 100 true [] [] rfl (by (repeat' apply And.intro) <;> first | exact True.intro | omega | (simp only [inK]; omega) | (simp; done) | (simp; omega) | exact decide_eq_true (by omega) | exact decide_eq_false (by omega) | rfl | (simp [Value.oneCell']; done) | exact i64s_one _ | exact AggOk.mk (by kernel_rfl) (by kernel_rfl)) ?_
      refine At.keep [false, true] [true, true] rfl ?_
      refine At.weak (ih2 (l.length - (j + 1)) _ _ _ (by omega) ⟨j + 1, a2, cap2, rfl, by omega, rfl, rfl, ?_⟩) ⟨rfl, rfl, rfl, rfl, rfl, rfl, rfl, rfl, rfl, some_int_eq (by omega), trivial⟩
      rw [hcol]; simp [setL, i64s]
    · have : j = l.length := by omega
      subst this
      rw [List.take_length]
      have hcl := colOf_len l i
      have hcp : ∀ {bx : Bx} {hp : List Seg}, CallOb Tryz.prog ⟨w, kys [] [Seg.row og 5 1 out.length oc (u8s out)]⟩ bx (Seg.row cg 2 1 l.length cc (i64s (colOf l i)) :: hp) 52 [sv cg l.length cc] (.tuple #[str (colL (colOf l i)), .int .i64 0]) := fun {bx hp} w' hw' => by
        have := Tryz.Put_w (colOf l i) (svA cg) cc w' (by omega) (SlOk.row (hw'.hp (Seg.row cg 2 1 l.length cc (i64s (colOf l i))) (by simp)))
        rw [hcl] at this; exact this
      have hcll := colL_len (colOf l i) (colOf_in hl i) (by omega)
      refine At.run 100 true [false] [hC (.tuple #[str (colL (colOf l i)), .int .i64 0])] rfl (by (repeat' apply And.intro) <;> first | exact hcp | exact True.intro | omega | rfl | (simp only [inK]; omega) | exact decide_eq_true (by omega) | exact decide_eq_false (by omega) | (simp; done) | (simp; omega) | (simp [Value.oneCell']; done) | exact i64s_one _ | exact AggOk.mk (by kernel_rfl) (by kernel_rfl)) ?_
      refine At.step [] rfl rfl rfl rfl rfl trivial (OpOk.appendStr 1 rfl rfl rfl rfl rfl rfl rfl (by rw [bl_mk]; omega) fun a3 cap3 => ?_)
      rw [bl_mk]
      refine At.run 100 true [] [] rfl (by (repeat' apply And.intro) <;> first | exact True.intro | omega | (simp only [inK]; omega) | (simp; done) | (simp; omega) | exact decide_eq_true (by omega) | exact decide_eq_false (by omega) | rfl | (simp [Value.oneCell']; done) | exact i64s_one _ | exact AggOk.mk (by kernel_rfl) (by kernel_rfl)) ?_
      refine At.keep [] [false, true] rfl ?_
      refine At.weak (ih (2 - (i + 1)) _ _ _ (by omega) ⟨i + 1, a3, cap3, rfl, by omega, rfl, rfl, ?_⟩) ⟨some_sv_eq (by rw [putB_succ]; simp only [List.length_append]; omega), rfl, rfl, rfl, some_int_eq (by omega), trivial⟩
      rw [putB_succ]; simp only [setL, u8s_append, List.length_append, List.append_assoc, Nat.add_assoc]
  · have : i = 2 := by omega
    subst this
    refine At.run 100 true [false] [] rfl (by (repeat' apply And.intro) <;> first | exact True.intro | omega | (simp only [inK]; omega) | (simp; done) | (simp; omega) | exact decide_eq_true (by omega) | exact decide_eq_false (by omega) | rfl | (simp [Value.oneCell']; done) | exact i64s_one _ | exact AggOk.mk (by kernel_rfl) (by kernel_rfl)) ?_
    exact At.ret [] rfl Tryz.func22 rfl trivial ⟨og', oc', rfl, rfl, rfl⟩

end Go.Proofs

/-
  Walks of layer 13: a book put.
-/
namespace Go.Proofs
open Go Go.Eng
set_option maxRecDepth 100000
set_option maxHeartbeats 4000000
attribute [local irreducible] Tri

theorem Tryz.snapPut_w (b : Bk) (A : BkA) (w : World) (hi : BkIn b) (ho : BkOk w b A) (hs : b.S.length ≤ 65536) :
    Fun Tryz.prog 8 [.agg ⟨bkV b A⟩] w (.tuple #[str (if mayB b then bookB b else []), .int .i64 (if mayB b then 0 else 1)]) := by
  refine Tri.enter (bx := []) (hp := []) Tryz.func8 rfl (by kernel_rfl) rfl (Own.nil w) ?_
  refine At.run 100 true [] [] rfl trivial ?_
  refine At.step [] rfl rfl rfl rfl rfl trivial (OpOk.box rfl rfl rfl fun bq hbq => ?_)
  have hM : ∀ {bx : Bx} {hp : List Seg}, CallOb Tryz.prog ⟨w, kys [] []⟩ bx hp 14 [.agg ⟨bkV b A⟩] (.bool (mayB b)) := fun {_ _} w' hw' => Tryz.May_w b A w' hi (ho.ext hw'.ext (by simp [kys]))
  cases hm : mayB b with
  | false =>
    rw [hm] at hM
    refine At.run 100 true [true] [hB 0, hC (.bool false)] rfl (by (repeat' apply And.intro) <;> first | exact hM | exact True.intro | omega | rfl | (simp only [inK]; omega) | exact decide_eq_true (by omega) | exact decide_eq_false (by omega) | (simp; done) | (simp; omega) | (simp [Value.oneCell']; done) | exact i64s_one _ | exact AggOk.mk (by kernel_rfl) (by kernel_rfl)) ?_
    exact At.retK [] [] [] rfl rfl Tryz.func8 rfl trivial ⟨rfl, rfl, rfl⟩
  | true =>
    rw [hm] at hM
    obtain ⟨n, hn, hn2, hl1, hl3, hl4⟩ : ∃ n : Nat, b.c = n ∧ n ≤ 1099511627776 ∧ b.H.length ≤ 32 ∧ b.O.length ≤ 64 ∧ b.R.length ≤ 32 := by
      simp only [mayB, listsB, Bool.and_eq_true, decide_eq_true_eq] at hm
      exact ⟨b.c.toNat, by omega, by omega, hm.1.1, hm.1.2.1, hm.1.2.2.1⟩
    have hN : ∀ {bx : Bx} {hp : List Seg}, CallOb Tryz.prog ⟨w, kys [] []⟩ bx hp 15 [.int .u64 b.c] (str (numL n)) := fun {_ _} w' hw' => by rw [hn]; exact Tryz.num_w n (by omega) w'
    have hnl := numL_len10 n (by omega)
    have hbk : bookB b = numL n ++ (putB 4 b.H ++ (putB 3 b.S ++ (putB 6 b.O ++ putB 2 b.R))) := by unfold bookB; rw [hn]; rfl
    refine At.run 100 true [false] [hB 0, hC (.bool true), hB 0, hC (str (numL n))] rfl (by (repeat' apply And.intro) <;> first | exact hM | exact hN | exact True.intro | omega | rfl | (simp only [inK]; omega) | exact decide_eq_true (by omega) | exact decide_eq_false (by omega) | (simp; done) | (simp; omega) | (simp [Value.oneCell']; done) | exact i64s_one _ | exact AggOk.mk (by kernel_rfl) (by kernel_rfl)) ?_
    refine At.step [] rfl rfl rfl rfl rfl trivial (OpOk.toBytes rfl rfl rfl rfl rfl (by rw [bl_mk]; omega) fun g0 cap0 => ?_)
    rw [bl_mk]
    refine At.run 100 true [] [] rfl (by (repeat' apply And.intro) <;> first | exact True.intro | omega | (simp only [inK]; omega) | (simp; done) | (simp; omega) | exact decide_eq_true (by omega) | exact decide_eq_false (by omega) | rfl | (simp [Value.oneCell']; done) | exact i64s_one _ | exact AggOk.mk (by kernel_rfl) (by kernel_rfl)) ?_
    refine At.weak (env' := [(1, .pointer (some ⟨bq, 0, none⟩)), (4, sv (some g0) (numL n).length cap0)]) ?_ ⟨rfl, rfl, trivial⟩
    have hout0 : (numL n).length ≤ 10 := hnl
    have hb0 : (numL n).length ≤ 10 := by
      try simp only [List.length_append]

      omega
    refine At.cutRow (ι := Option Nat × Nat) ⟨1, [0, 1, 1, 1], []⟩ 0 (fun i => [(1, .pointer (some ⟨bq, 0, none⟩)), (4, sv i.1 (numL n ++ putB 4 b.H).length i.2)]) (fun _ => [(bq, 27, bkV b A)]) (fun i => Seg.row i.1 5 1 (numL n ++ putB 4 b.H).length i.2 (u8s (numL n ++ putB 4 b.H))) ?_ (fun hs0 => ?_)
    · rintro ⟨g1, cap1⟩
      have hb1 : (numL n ++ putB 4 b.H).length ≤ 5242930 := by
        try simp only [List.length_append]
        have := putB_len hi.r1 (by omega : b.H.length ≤ 65536) 4
        omega
      refine At.cutRow (ι := Option Nat × Nat) ⟨1, [0, 1, 1, 1, 1], []⟩ 0 (fun i => [(1, .pointer (some ⟨bq, 0, none⟩)), (4, sv i.1 (numL n ++ putB 4 b.H ++ putB 3 b.S).length i.2)]) (fun _ => [(bq, 27, bkV b A)]) (fun i => Seg.row i.1 5 1 (numL n ++ putB 4 b.H ++ putB 3 b.S).length i.2 (u8s (numL n ++ putB 4 b.H ++ putB 3 b.S))) ?_ (fun hs1 => ?_)
      · rintro ⟨g2, cap2⟩
        have hb2 : (numL n ++ putB 4 b.H ++ putB 3 b.S).length ≤ 9175120 := by
          try simp only [List.length_append]
          have := putB_len hi.r1 (by omega : b.H.length ≤ 65536) 4
          have := putB_len hi.r2 (by omega : b.S.length ≤ 65536) 3
          omega
        refine At.cutRow (ι := Option Nat × Nat) ⟨1, [0, 1, 1, 1, 1, 1], []⟩ 0 (fun i => [(1, .pointer (some ⟨bq, 0, none⟩)), (4, sv i.1 (numL n ++ putB 4 b.H ++ putB 3 b.S ++ putB 6 b.O).length i.2)]) (fun _ => [(bq, 27, bkV b A)]) (fun i => Seg.row i.1 5 1 (numL n ++ putB 4 b.H ++ putB 3 b.S ++ putB 6 b.O).length i.2 (u8s (numL n ++ putB 4 b.H ++ putB 3 b.S ++ putB 6 b.O))) ?_ (fun hs2 => ?_)
        · rintro ⟨g3, cap3⟩
          have hb3 : (numL n ++ putB 4 b.H ++ putB 3 b.S ++ putB 6 b.O).length ≤ 17039500 := by
            try simp only [List.length_append]
            have := putB_len hi.r1 (by omega : b.H.length ≤ 65536) 4
            have := putB_len hi.r2 (by omega : b.S.length ≤ 65536) 3
            have := putB_len hi.r3 (by omega : b.O.length ≤ 65536) 6
            omega
          refine At.cutRow (ι := Option Nat × Nat) ⟨1, [0, 1, 1, 1, 1, 1, 1], []⟩ 0 (fun i => [(1, .pointer (some ⟨bq, 0, none⟩)), (4, sv i.1 (numL n ++ putB 4 b.H ++ putB 3 b.S ++ putB 6 b.O ++ putB 2 b.R).length i.2)]) (fun _ => [(bq, 27, bkV b A)]) (fun i => Seg.row i.1 5 1 (numL n ++ putB 4 b.H ++ putB 3 b.S ++ putB 6 b.O ++ putB 2 b.R).length i.2 (u8s (numL n ++ putB 4 b.H ++ putB 3 b.S ++ putB 6 b.O ++ putB 2 b.R))) ?_ (fun hs3 => ?_)
          · rintro ⟨g4, cap4⟩
            refine At.run 100 true [] [] rfl trivial ?_
            refine At.step [] rfl rfl rfl rfl rfl trivial (OpOk.toStr (l := numL n ++ putB 4 b.H ++ putB 3 b.S ++ putB 6 b.O ++ putB 2 b.R) 0 rfl rfl rfl rfl rfl rfl ?_)
            refine At.run 100 true [] [] rfl trivial ?_
            exact At.retK [] [] [] rfl rfl Tryz.func8 rfl trivial ⟨by rw [hbk]; simp only [List.append_assoc]; rfl, rfl, rfl⟩
          · refine At.run 100 true [] [] rfl trivial ?_
            refine At.draw 6 rfl rfl rfl rfl ?_
            refine AtD.pures (ob := True) true (by kernel_rfl) [0, 1] (fuel := 4) (by kernel_rfl) rfl (by (repeat' apply And.intro) <;> first | exact True.intro | omega | (simp only [inK]; omega) | (simp; done) | (simp; omega) | exact decide_eq_true (by omega) | exact decide_eq_false (by omega) | rfl | (simp [Value.oneCell']; done) | exact i64s_one _ | exact AggOk.mk (by kernel_rfl) (by kernel_rfl)) ?_
            refine AtD.fork2 2 3 (by kernel_rfl) ?_ ?_
            · refine StepD.by [] rfl rfl rfl rfl trivial (OpOk.one true [] [hB 0] rfl rfl ?_)
              refine AtD.fork1 3 (by kernel_rfl) (StepD.by [] rfl rfl rfl rfl trivial (OpOk.call rfl (fun w' _ => Tryz.rates_w w') ?_))
              rintro v bx' hp' ⟨gf, rfl, rfl, rfl⟩
              refine AtD.fork1 4 (by kernel_rfl) (StepD.by [] rfl rfl rfl rfl trivial (OpOk.callO [] [true] rfl rfl (fun w' hw' hown => Tryz.snapPutRate_w (numL n ++ putB 4 b.H ++ putB 3 b.S ++ putB 6 b.O) (g3) (cap3) b.R A.a4 A.c4 gf w' hi.r4 (by omega) (by have := hb3; omega) (ho.ext hw'.ext (by simp [kys])).h4 (hw'.bx (gf, _, Tryz.ratesL) (List.mem_cons_self ..)) hown (notKey hw') (fun k hk hk2 => baseKey hw' ((ho.h4).ltR k hk) hk2)) ?_))
              rintro v bx' hp' ⟨og', oc', rfl, rfl, rfl⟩
              refine AtD.pures (ob := True) true (by kernel_rfl) [5] (fuel := 0) (by kernel_rfl) rfl trivial ?_
              refine AtD.done (by kernel_rfl) ?_
              refine At.keep [false, true] [true] rfl ?_
              exact At.weak (hs3 (og', oc')) ⟨rfl, rfl, trivial⟩
            · refine StepD.by [] rfl rfl rfl rfl trivial (OpOk.call rfl (fun w' _ => Tryz.rates_w w') ?_)
              rintro v bx' hp' ⟨gf, rfl, rfl, rfl⟩
              refine AtD.fork1 2 (by kernel_rfl) (StepD.by [] rfl rfl rfl rfl trivial (OpOk.one true [] [hB 1] rfl rfl ?_))
              refine AtD.fork1 4 (by kernel_rfl) (StepD.by [] rfl rfl rfl rfl trivial (OpOk.callO [] [true] rfl rfl (fun w' hw' hown => Tryz.snapPutRate_w (numL n ++ putB 4 b.H ++ putB 3 b.S ++ putB 6 b.O) (g3) (cap3) b.R A.a4 A.c4 gf w' hi.r4 (by omega) (by have := hb3; omega) (ho.ext hw'.ext (by simp [kys])).h4 (hw'.bx (gf, _, Tryz.ratesL) (List.mem_cons_self ..)) hown (notKey hw') (fun k hk hk2 => baseKey hw' ((ho.h4).ltR k hk) hk2)) ?_))
              rintro v bx' hp' ⟨og', oc', rfl, rfl, rfl⟩
              refine AtD.pures (ob := True) true (by kernel_rfl) [5] (fuel := 0) (by kernel_rfl) rfl trivial ?_
              refine AtD.done (by kernel_rfl) ?_
              refine At.keep [false, true] [true] rfl ?_
              exact At.weak (hs3 (og', oc')) ⟨rfl, rfl, trivial⟩
        · refine At.run 100 true [] [] rfl trivial ?_
          refine At.draw 6 rfl rfl rfl rfl ?_
          refine AtD.pures (ob := True) true (by kernel_rfl) [0, 1] (fuel := 4) (by kernel_rfl) rfl (by (repeat' apply And.intro) <;> first | exact True.intro | omega | (simp only [inK]; omega) | (simp; done) | (simp; omega) | exact decide_eq_true (by omega) | exact decide_eq_false (by omega) | rfl | (simp [Value.oneCell']; done) | exact i64s_one _ | exact AggOk.mk (by kernel_rfl) (by kernel_rfl)) ?_
          refine AtD.fork2 2 3 (by kernel_rfl) ?_ ?_
          · refine StepD.by [] rfl rfl rfl rfl trivial (OpOk.one true [] [hB 0] rfl rfl ?_)
            refine AtD.fork1 3 (by kernel_rfl) (StepD.by [] rfl rfl rfl rfl trivial (OpOk.call rfl (fun w' _ => Tryz.opens_w w') ?_))
            rintro v bx' hp' ⟨gf, rfl, rfl, rfl⟩
            refine AtD.fork1 4 (by kernel_rfl) (StepD.by [] rfl rfl rfl rfl trivial (OpOk.callO [] [true] rfl rfl (fun w' hw' hown => Tryz.snapPutOpen_w (numL n ++ putB 4 b.H ++ putB 3 b.S) (g2) (cap2) b.O A.a3 A.c3 gf w' hi.r3 (by omega) (by have := hb2; omega) (ho.ext hw'.ext (by simp [kys])).h3 (hw'.bx (gf, _, Tryz.opensL) (List.mem_cons_self ..)) hown (notKey hw') (fun k hk hk2 => baseKey hw' ((ho.h3).ltR k hk) hk2)) ?_))
            rintro v bx' hp' ⟨og', oc', rfl, rfl, rfl⟩
            refine AtD.pures (ob := True) true (by kernel_rfl) [5] (fuel := 0) (by kernel_rfl) rfl trivial ?_
            refine AtD.done (by kernel_rfl) ?_
            refine At.keep [false, true] [true] rfl ?_
            exact At.weak (hs2 (og', oc')) ⟨rfl, rfl, trivial⟩
          · refine StepD.by [] rfl rfl rfl rfl trivial (OpOk.call rfl (fun w' _ => Tryz.opens_w w') ?_)
            rintro v bx' hp' ⟨gf, rfl, rfl, rfl⟩
            refine AtD.fork1 2 (by kernel_rfl) (StepD.by [] rfl rfl rfl rfl trivial (OpOk.one true [] [hB 1] rfl rfl ?_))
            refine AtD.fork1 4 (by kernel_rfl) (StepD.by [] rfl rfl rfl rfl trivial (OpOk.callO [] [true] rfl rfl (fun w' hw' hown => Tryz.snapPutOpen_w (numL n ++ putB 4 b.H ++ putB 3 b.S) (g2) (cap2) b.O A.a3 A.c3 gf w' hi.r3 (by omega) (by have := hb2; omega) (ho.ext hw'.ext (by simp [kys])).h3 (hw'.bx (gf, _, Tryz.opensL) (List.mem_cons_self ..)) hown (notKey hw') (fun k hk hk2 => baseKey hw' ((ho.h3).ltR k hk) hk2)) ?_))
            rintro v bx' hp' ⟨og', oc', rfl, rfl, rfl⟩
            refine AtD.pures (ob := True) true (by kernel_rfl) [5] (fuel := 0) (by kernel_rfl) rfl trivial ?_
            refine AtD.done (by kernel_rfl) ?_
            refine At.keep [false, true] [true] rfl ?_
            exact At.weak (hs2 (og', oc')) ⟨rfl, rfl, trivial⟩
      · refine At.run 100 true [] [] rfl trivial ?_
        refine At.draw 6 rfl rfl rfl rfl ?_
        refine AtD.pures (ob := True) true (by kernel_rfl) [0, 1] (fuel := 4) (by kernel_rfl) rfl (by (repeat' apply And.intro) <;> first | exact True.intro | omega | (simp only [inK]; omega) | (simp; done) | (simp; omega) | exact decide_eq_true (by omega) | exact decide_eq_false (by omega) | rfl | (simp [Value.oneCell']; done) | exact i64s_one _ | exact AggOk.mk (by kernel_rfl) (by kernel_rfl)) ?_
        refine AtD.fork2 2 3 (by kernel_rfl) ?_ ?_
        · refine StepD.by [] rfl rfl rfl rfl trivial (OpOk.one true [] [hB 0] rfl rfl ?_)
          refine AtD.fork1 3 (by kernel_rfl) (StepD.by [] rfl rfl rfl rfl trivial (OpOk.call rfl (fun w' _ => Tryz.stakes_w w') ?_))
          rintro v bx' hp' ⟨gf, rfl, rfl, rfl⟩
          refine AtD.fork1 4 (by kernel_rfl) (StepD.by [] rfl rfl rfl rfl trivial (OpOk.callO [] [true] rfl rfl (fun w' hw' hown => Tryz.snapPutStake_w (numL n ++ putB 4 b.H) (g1) (cap1) b.S A.a2 A.c2 gf w' hi.r2 (by omega) (by have := hb1; omega) (ho.ext hw'.ext (by simp [kys])).h2 (hw'.bx (gf, _, Tryz.stakesL) (List.mem_cons_self ..)) hown (notKey hw') (fun k hk hk2 => baseKey hw' ((ho.h2).ltR k hk) hk2)) ?_))
          rintro v bx' hp' ⟨og', oc', rfl, rfl, rfl⟩
          refine AtD.pures (ob := True) true (by kernel_rfl) [5] (fuel := 0) (by kernel_rfl) rfl trivial ?_
          refine AtD.done (by kernel_rfl) ?_
          refine At.keep [false, true] [true] rfl ?_
          exact At.weak (hs1 (og', oc')) ⟨rfl, rfl, trivial⟩
        · refine StepD.by [] rfl rfl rfl rfl trivial (OpOk.call rfl (fun w' _ => Tryz.stakes_w w') ?_)
          rintro v bx' hp' ⟨gf, rfl, rfl, rfl⟩
          refine AtD.fork1 2 (by kernel_rfl) (StepD.by [] rfl rfl rfl rfl trivial (OpOk.one true [] [hB 1] rfl rfl ?_))
          refine AtD.fork1 4 (by kernel_rfl) (StepD.by [] rfl rfl rfl rfl trivial (OpOk.callO [] [true] rfl rfl (fun w' hw' hown => Tryz.snapPutStake_w (numL n ++ putB 4 b.H) (g1) (cap1) b.S A.a2 A.c2 gf w' hi.r2 (by omega) (by have := hb1; omega) (ho.ext hw'.ext (by simp [kys])).h2 (hw'.bx (gf, _, Tryz.stakesL) (List.mem_cons_self ..)) hown (notKey hw') (fun k hk hk2 => baseKey hw' ((ho.h2).ltR k hk) hk2)) ?_))
          rintro v bx' hp' ⟨og', oc', rfl, rfl, rfl⟩
          refine AtD.pures (ob := True) true (by kernel_rfl) [5] (fuel := 0) (by kernel_rfl) rfl trivial ?_
          refine AtD.done (by kernel_rfl) ?_
          refine At.keep [false, true] [true] rfl ?_
          exact At.weak (hs1 (og', oc')) ⟨rfl, rfl, trivial⟩
    · refine At.run 100 true [] [] rfl trivial ?_
      refine At.draw 6 rfl rfl rfl rfl ?_
      refine AtD.pures (ob := True) true (by kernel_rfl) [0, 1] (fuel := 4) (by kernel_rfl) rfl (by (repeat' apply And.intro) <;> first | exact True.intro | omega | (simp only [inK]; omega) | (simp; done) | (simp; omega) | exact decide_eq_true (by omega) | exact decide_eq_false (by omega) | rfl | (simp [Value.oneCell']; done) | exact i64s_one _ | exact AggOk.mk (by kernel_rfl) (by kernel_rfl)) ?_
      refine AtD.fork2 2 3 (by kernel_rfl) ?_ ?_
      · refine StepD.by [] rfl rfl rfl rfl trivial (OpOk.one true [] [hB 0] rfl rfl ?_)
        refine AtD.fork1 3 (by kernel_rfl) (StepD.by [] rfl rfl rfl rfl trivial (OpOk.call rfl (fun w' _ => Tryz.holders_w w') ?_))
        rintro v bx' hp' ⟨gf, rfl, rfl, rfl⟩
        refine AtD.fork1 4 (by kernel_rfl) (StepD.by [] rfl rfl rfl rfl trivial (OpOk.callO [] [true] rfl rfl (fun w' hw' hown => Tryz.snapPutHolder_w (numL n) (some g0) (cap0) b.H A.a1 A.c1 gf w' hi.r1 (by omega) (by have := hb0; omega) (ho.ext hw'.ext (by simp [kys])).h1 (hw'.bx (gf, _, Tryz.holdersL) (List.mem_cons_self ..)) hown (notKey hw') (fun k hk hk2 => baseKey hw' ((ho.h1).ltR k hk) hk2)) ?_))
        rintro v bx' hp' ⟨og', oc', rfl, rfl, rfl⟩
        refine AtD.pures (ob := True) true (by kernel_rfl) [5] (fuel := 0) (by kernel_rfl) rfl trivial ?_
        refine AtD.done (by kernel_rfl) ?_
        refine At.keep [false, true] [true] rfl ?_
        exact At.weak (hs0 (og', oc')) ⟨rfl, rfl, trivial⟩
      · refine StepD.by [] rfl rfl rfl rfl trivial (OpOk.call rfl (fun w' _ => Tryz.holders_w w') ?_)
        rintro v bx' hp' ⟨gf, rfl, rfl, rfl⟩
        refine AtD.fork1 2 (by kernel_rfl) (StepD.by [] rfl rfl rfl rfl trivial (OpOk.one true [] [hB 1] rfl rfl ?_))
        refine AtD.fork1 4 (by kernel_rfl) (StepD.by [] rfl rfl rfl rfl trivial (OpOk.callO [] [true] rfl rfl (fun w' hw' hown => Tryz.snapPutHolder_w (numL n) (some g0) (cap0) b.H A.a1 A.c1 gf w' hi.r1 (by omega) (by have := hb0; omega) (ho.ext hw'.ext (by simp [kys])).h1 (hw'.bx (gf, _, Tryz.holdersL) (List.mem_cons_self ..)) hown (notKey hw') (fun k hk hk2 => baseKey hw' ((ho.h1).ltR k hk) hk2)) ?_))
        rintro v bx' hp' ⟨og', oc', rfl, rfl, rfl⟩
        refine AtD.pures (ob := True) true (by kernel_rfl) [5] (fuel := 0) (by kernel_rfl) rfl trivial ?_
        refine AtD.done (by kernel_rfl) ?_
        refine At.keep [false, true] [true] rfl ?_
        exact At.weak (hs0 (og', oc')) ⟨rfl, rfl, trivial⟩
end Go.Proofs

/-
  Walks of layer 13: the reference puts a book.
-/
namespace Go.Proofs
open Go Go.Eng
set_option maxRecDepth 100000
set_option maxHeartbeats 4000000
attribute [local irreducible] Tri

def colsB (b : Bk) : List (List Int) := [colOf b.H 0, colOf b.H 1, colOf b.H 2, colOf b.H 3, colOf b.S 0, colOf b.S 1, colOf b.S 2, colOf b.O 0, colOf b.O 1, colOf b.O 2, colOf b.O 3, colOf b.O 4, colOf b.O 5, colOf b.R 0, colOf b.R 1]
theorem colsB_put (b : Bk) : numL b.c.toNat ++ (colsB b).flatMap colL = bookB b := by
  simp [colsB, bookB, putB, List.range_succ]
theorem flat_bound (B : Nat) : ∀ (ls : List (List Int)) (i : Nat), (∀ c, c ∈ ls → (colL c).length ≤ B) → ((ls.take i).flatMap colL).length ≤ i * B
  | [], i, _ => by simp
  | c :: ls, 0, _ => by simp
  | c :: ls, i + 1, h => by
    rw [List.take_succ_cons, List.flatMap_cons, List.length_append, Nat.succ_mul]
    have h1 := h c (by simp)
    have h2 := flat_bound B ls i (fun d hd => h d (by simp [hd]))
    omega
theorem colsB_bound (b : Bk) (hi : BkIn b) (h1 : b.H.length ≤ 65536) (h2 : b.S.length ≤ 65536) (h3 : b.O.length ≤ 65536) (h4 : b.R.length ≤ 65536) : ∀ c, c ∈ colsB b → (colL c).length ≤ 1310730 := by
  have key : ∀ (sz : Nat) (l : List (List Int)) (f : Nat), Recs sz l → l.length ≤ 65536 → (colL (colOf l f)).length ≤ 1310730 := fun sz l f hr hl => by
    have := colL_len (colOf l f) (colOf_in hr f) (by rw [colOf_len]; omega)
    rw [colOf_len] at this; omega
  intro c hc
  simp only [colsB, List.mem_cons, List.not_mem_nil, or_false] at hc
  rcases hc with rfl | rfl | rfl | rfl | rfl | rfl | rfl | rfl | rfl | rfl | rfl | rfl | rfl | rfl | rfl
  all_goals first | exact key 4 _ _ hi.r1 h1 | exact key 3 _ _ hi.r2 h2 | exact key 6 _ _ hi.r3 h3 | exact key 2 _ _ hi.r4 h4
theorem Tryz.cols15 (b : Bk) (g : Nat → Option Nat) (c : Nat → Nat) (h1 : b.H.length ≤ 65536) (h2 : b.S.length ≤ 65536) (h3 : b.O.length ≤ 65536) (h4 : b.R.length ≤ 65536) (i : Nat) (hi : i < 15) :
    ∃ (gg : Option Nat) (cc : Nat) (xs : List Int), ([sv (g 0) b.H.length (c 0), sv (g 1) b.H.length (c 1), sv (g 2) b.H.length (c 2), sv (g 3) b.H.length (c 3), sv (g 4) b.S.length (c 4), sv (g 5) b.S.length (c 5), sv (g 6) b.S.length (c 6), sv (g 7) b.O.length (c 7), sv (g 8) b.O.length (c 8), sv (g 9) b.O.length (c 9), sv (g 10) b.O.length (c 10), sv (g 11) b.O.length (c 11), sv (g 12) b.O.length (c 12), sv (g 13) b.R.length (c 13), sv (g 14) b.R.length (c 14)] : List Value)[i]? = some (sv gg xs.length cc) ∧ (colsB b)[i]? = some xs ∧ ([Seg.row (g 0) 2 1 b.H.length (c 0) (i64s (colOf b.H 0)), Seg.row (g 1) 2 1 b.H.length (c 1) (i64s (colOf b.H 1)), Seg.row (g 2) 2 1 b.H.length (c 2) (i64s (colOf b.H 2)), Seg.row (g 3) 2 1 b.H.length (c 3) (i64s (colOf b.H 3)), Seg.row (g 4) 2 1 b.S.length (c 4) (i64s (colOf b.S 0)), Seg.row (g 5) 2 1 b.S.length (c 5) (i64s (colOf b.S 1)), Seg.row (g 6) 2 1 b.S.length (c 6) (i64s (colOf b.S 2)), Seg.row (g 7) 2 1 b.O.length (c 7) (i64s (colOf b.O 0)), Seg.row (g 8) 2 1 b.O.length (c 8) (i64s (colOf b.O 1)), Seg.row (g 9) 2 1 b.O.length (c 9) (i64s (colOf b.O 2)), Seg.row (g 10) 2 1 b.O.length (c 10) (i64s (colOf b.O 3)), Seg.row (g 11) 2 1 b.O.length (c 11) (i64s (colOf b.O 4)), Seg.row (g 12) 2 1 b.O.length (c 12) (i64s (colOf b.O 5)), Seg.row (g 13) 2 1 b.R.length (c 13) (i64s (colOf b.R 0)), Seg.row (g 14) 2 1 b.R.length (c 14) (i64s (colOf b.R 1))] : List Seg)[i]? = some (Seg.row gg 2 1 xs.length cc (i64s xs)) ∧ xs.length ≤ 65536 := by
  have key : ∀ (gg : Option Nat) (cc : Nat) (l : List (List Int)) (f : Nat), l.length ≤ 65536 → (([sv (g 0) b.H.length (c 0), sv (g 1) b.H.length (c 1), sv (g 2) b.H.length (c 2), sv (g 3) b.H.length (c 3), sv (g 4) b.S.length (c 4), sv (g 5) b.S.length (c 5), sv (g 6) b.S.length (c 6), sv (g 7) b.O.length (c 7), sv (g 8) b.O.length (c 8), sv (g 9) b.O.length (c 9), sv (g 10) b.O.length (c 10), sv (g 11) b.O.length (c 11), sv (g 12) b.O.length (c 12), sv (g 13) b.R.length (c 13), sv (g 14) b.R.length (c 14)] : List Value)[i]? = some (sv gg l.length cc) ∧ (colsB b)[i]? = some (colOf l f) ∧ ([Seg.row (g 0) 2 1 b.H.length (c 0) (i64s (colOf b.H 0)), Seg.row (g 1) 2 1 b.H.length (c 1) (i64s (colOf b.H 1)), Seg.row (g 2) 2 1 b.H.length (c 2) (i64s (colOf b.H 2)), Seg.row (g 3) 2 1 b.H.length (c 3) (i64s (colOf b.H 3)), Seg.row (g 4) 2 1 b.S.length (c 4) (i64s (colOf b.S 0)), Seg.row (g 5) 2 1 b.S.length (c 5) (i64s (colOf b.S 1)), Seg.row (g 6) 2 1 b.S.length (c 6) (i64s (colOf b.S 2)), Seg.row (g 7) 2 1 b.O.length (c 7) (i64s (colOf b.O 0)), Seg.row (g 8) 2 1 b.O.length (c 8) (i64s (colOf b.O 1)), Seg.row (g 9) 2 1 b.O.length (c 9) (i64s (colOf b.O 2)), Seg.row (g 10) 2 1 b.O.length (c 10) (i64s (colOf b.O 3)), Seg.row (g 11) 2 1 b.O.length (c 11) (i64s (colOf b.O 4)), Seg.row (g 12) 2 1 b.O.length (c 12) (i64s (colOf b.O 5)), Seg.row (g 13) 2 1 b.R.length (c 13) (i64s (colOf b.R 0)), Seg.row (g 14) 2 1 b.R.length (c 14) (i64s (colOf b.R 1))] : List Seg)[i]? = some (Seg.row gg 2 1 l.length cc (i64s (colOf l f)))) →
      ∃ (gg : Option Nat) (cc : Nat) (xs : List Int), ([sv (g 0) b.H.length (c 0), sv (g 1) b.H.length (c 1), sv (g 2) b.H.length (c 2), sv (g 3) b.H.length (c 3), sv (g 4) b.S.length (c 4), sv (g 5) b.S.length (c 5), sv (g 6) b.S.length (c 6), sv (g 7) b.O.length (c 7), sv (g 8) b.O.length (c 8), sv (g 9) b.O.length (c 9), sv (g 10) b.O.length (c 10), sv (g 11) b.O.length (c 11), sv (g 12) b.O.length (c 12), sv (g 13) b.R.length (c 13), sv (g 14) b.R.length (c 14)] : List Value)[i]? = some (sv gg xs.length cc) ∧ (colsB b)[i]? = some xs ∧ ([Seg.row (g 0) 2 1 b.H.length (c 0) (i64s (colOf b.H 0)), Seg.row (g 1) 2 1 b.H.length (c 1) (i64s (colOf b.H 1)), Seg.row (g 2) 2 1 b.H.length (c 2) (i64s (colOf b.H 2)), Seg.row (g 3) 2 1 b.H.length (c 3) (i64s (colOf b.H 3)), Seg.row (g 4) 2 1 b.S.length (c 4) (i64s (colOf b.S 0)), Seg.row (g 5) 2 1 b.S.length (c 5) (i64s (colOf b.S 1)), Seg.row (g 6) 2 1 b.S.length (c 6) (i64s (colOf b.S 2)), Seg.row (g 7) 2 1 b.O.length (c 7) (i64s (colOf b.O 0)), Seg.row (g 8) 2 1 b.O.length (c 8) (i64s (colOf b.O 1)), Seg.row (g 9) 2 1 b.O.length (c 9) (i64s (colOf b.O 2)), Seg.row (g 10) 2 1 b.O.length (c 10) (i64s (colOf b.O 3)), Seg.row (g 11) 2 1 b.O.length (c 11) (i64s (colOf b.O 4)), Seg.row (g 12) 2 1 b.O.length (c 12) (i64s (colOf b.O 5)), Seg.row (g 13) 2 1 b.R.length (c 13) (i64s (colOf b.R 0)), Seg.row (g 14) 2 1 b.R.length (c 14) (i64s (colOf b.R 1))] : List Seg)[i]? = some (Seg.row gg 2 1 xs.length cc (i64s xs)) ∧ xs.length ≤ 65536 := by
    intro gg cc l f hl ⟨e1, e2, e3⟩
    exact ⟨gg, cc, colOf l f, by rw [colOf_len]; exact e1, e2, by rw [colOf_len]; exact e3, by rw [colOf_len]; exact hl⟩
  match i, hi with
  | 0, _ => exact key (g 0) (c 0) b.H 0 h1 ⟨rfl, rfl, rfl⟩
  | 1, _ => exact key (g 1) (c 1) b.H 1 h1 ⟨rfl, rfl, rfl⟩
  | 2, _ => exact key (g 2) (c 2) b.H 2 h1 ⟨rfl, rfl, rfl⟩
  | 3, _ => exact key (g 3) (c 3) b.H 3 h1 ⟨rfl, rfl, rfl⟩
  | 4, _ => exact key (g 4) (c 4) b.S 0 h2 ⟨rfl, rfl, rfl⟩
  | 5, _ => exact key (g 5) (c 5) b.S 1 h2 ⟨rfl, rfl, rfl⟩
  | 6, _ => exact key (g 6) (c 6) b.S 2 h2 ⟨rfl, rfl, rfl⟩
  | 7, _ => exact key (g 7) (c 7) b.O 0 h3 ⟨rfl, rfl, rfl⟩
  | 8, _ => exact key (g 8) (c 8) b.O 1 h3 ⟨rfl, rfl, rfl⟩
  | 9, _ => exact key (g 9) (c 9) b.O 2 h3 ⟨rfl, rfl, rfl⟩
  | 10, _ => exact key (g 10) (c 10) b.O 3 h3 ⟨rfl, rfl, rfl⟩
  | 11, _ => exact key (g 11) (c 11) b.O 4 h3 ⟨rfl, rfl, rfl⟩
  | 12, _ => exact key (g 12) (c 12) b.O 5 h3 ⟨rfl, rfl, rfl⟩
  | 13, _ => exact key (g 13) (c 13) b.R 0 h4 ⟨rfl, rfl, rfl⟩
  | 14, _ => exact key (g 14) (c 14) b.R 1 h4 ⟨rfl, rfl, rfl⟩

theorem Tryz.rPut13_w (b : Bk) (A : BkA) (w : World) (hi : BkIn b) (ho : BkOk w b A) (h1 : b.H.length ≤ 65536) (h2 : b.S.length ≤ 65536) (h3 : b.O.length ≤ 65536) (h4 : b.R.length ≤ 65536) (hc : 0 ≤ b.c) :
    Fun Tryz.prog 11 [.agg ⟨bkV b A⟩] w (str (bookB b)) := by
  refine Tri.enter (bx := []) (hp := []) Tryz.func11 rfl (by kernel_rfl) rfl (Own.nil w) ?_
  refine At.run 100 true [] [] rfl trivial ?_
  refine At.step [] rfl rfl rfl rfl rfl trivial (OpOk.box rfl rfl rfl fun bq hbq => ?_)
  have hcc := hi.cc
  have hN : ∀ {bx : Bx} {hp : List Seg}, CallOb Tryz.prog ⟨w, kys [] []⟩ bx hp 34 [.int .u64 b.c] (str (numL b.c.toNat)) := fun {_ _} w' hw' => by
    have := Tryz.rnum_w b.c.toNat (by simp only [inK] at hcc; omega) w'
    rw [Int.toNat_of_nonneg hc] at this; exact this
  refine At.run 100 true [] [hB 0, hC (str (numL b.c.toNat)), hB 0] rfl (by (repeat' apply And.intro) <;> first | exact hN | (simp only [inK] at hcc ⊢; omega) | exact True.intro | omega | rfl | (simp only [inK]; omega) | exact decide_eq_true (by omega) | exact decide_eq_false (by omega) | (simp; done) | (simp; omega) | (simp [Value.oneCell']; done) | exact i64s_one _ | exact AggOk.mk (by kernel_rfl) (by kernel_rfl)) ?_
  refine At.step [] rfl rfl rfl rfl rfl trivial (OpOk.call rfl (fun w' hw' => Tryz.columns_w b A w' hi (ho.ext hw'.ext (by simp [kys]))) ?_)
  rintro v bx' hp' ⟨g, c, rfl, rfl, rfl⟩
  refine At.run 100 true [] [] rfl trivial ?_
  refine At.step [] rfl rfl rfl rfl rfl trivial (OpOk.alloc (cs := [sv none 0 0, sv none 0 0, sv none 0 0, sv none 0 0, sv none 0 0, sv none 0 0, sv none 0 0, sv none 0 0, sv none 0 0, sv none 0 0, sv none 0 0, sv none 0 0, sv none 0 0, sv none 0 0, sv none 0 0]) rfl (by kernel_rfl) fun b4 hb4 => ?_)
  refine At.run 100 true [] [hB 0] rfl (by (repeat' apply And.intro) <;> first | simp [Value.oneCell', sv]; done | exact True.intro | omega | rfl | (simp only [inK]; omega) | exact decide_eq_true (by omega) | exact decide_eq_false (by omega) | (simp; done) | (simp; omega) | (simp [Value.oneCell']; done) | exact i64s_one _ | exact AggOk.mk (by kernel_rfl) (by kernel_rfl)) ?_
  refine At.loop (n := 15) (env0 := [(1, .pointer (some ⟨bq, 0, none⟩)), (3, str (numL b.c.toNat)), (4, .pointer (some ⟨b4, 0, none⟩)), (5, .int .i64 0)]) (fun m env bx hp => ∃ (i : Nat), m = 15 - i ∧ i ≤ 15 ∧ env = [(1, .pointer (some ⟨bq, 0, none⟩)), (3, str (numL b.c.toNat ++ ((colsB b).take i).flatMap colL)), (4, .pointer (some ⟨b4, 0, none⟩)), (5, .int .i64 i)] ∧
    bx = [(b4, 78, [sv (g 0) b.H.length (c 0), sv (g 1) b.H.length (c 1), sv (g 2) b.H.length (c 2), sv (g 3) b.H.length (c 3), sv (g 4) b.S.length (c 4), sv (g 5) b.S.length (c 5), sv (g 6) b.S.length (c 6), sv (g 7) b.O.length (c 7), sv (g 8) b.O.length (c 8), sv (g 9) b.O.length (c 9), sv (g 10) b.O.length (c 10), sv (g 11) b.O.length (c 11), sv (g 12) b.O.length (c 12), sv (g 13) b.R.length (c 13), sv (g 14) b.R.length (c 14)]), (bq, 27, bkV b A)] ∧ hp = [Seg.row (g 0) 2 1 b.H.length (c 0) (i64s (colOf b.H 0)), Seg.row (g 1) 2 1 b.H.length (c 1) (i64s (colOf b.H 1)), Seg.row (g 2) 2 1 b.H.length (c 2) (i64s (colOf b.H 2)), Seg.row (g 3) 2 1 b.H.length (c 3) (i64s (colOf b.H 3)), Seg.row (g 4) 2 1 b.S.length (c 4) (i64s (colOf b.S 0)), Seg.row (g 5) 2 1 b.S.length (c 5) (i64s (colOf b.S 1)), Seg.row (g 6) 2 1 b.S.length (c 6) (i64s (colOf b.S 2)), Seg.row (g 7) 2 1 b.O.length (c 7) (i64s (colOf b.O 0)), Seg.row (g 8) 2 1 b.O.length (c 8) (i64s (colOf b.O 1)), Seg.row (g 9) 2 1 b.O.length (c 9) (i64s (colOf b.O 2)), Seg.row (g 10) 2 1 b.O.length (c 10) (i64s (colOf b.O 3)), Seg.row (g 11) 2 1 b.O.length (c 11) (i64s (colOf b.O 4)), Seg.row (g 12) 2 1 b.O.length (c 12) (i64s (colOf b.O 5)), Seg.row (g 13) 2 1 b.R.length (c 13) (i64s (colOf b.R 0)), Seg.row (g 14) 2 1 b.R.length (c 14) (i64s (colOf b.R 1))]) rfl ⟨0, rfl, by omega, by simp, rfl, rfl⟩ ⟨rfl, rfl, rfl, rfl, trivial⟩ ?_
  rintro m env bx hp ⟨i, rfl, hi2, rfl, rfl, rfl⟩ ih
  by_cases hlt : i < 15
  · obtain ⟨gg, cc, xs, e1, e2, e3, hxl⟩ := Tryz.cols15 b g c h1 h2 h3 h4 i hlt
    have hld : RdW ⟨w, kys [] []⟩ [(b4, 78, [sv (g 0) b.H.length (c 0), sv (g 1) b.H.length (c 1), sv (g 2) b.H.length (c 2), sv (g 3) b.H.length (c 3), sv (g 4) b.S.length (c 4), sv (g 5) b.S.length (c 5), sv (g 6) b.S.length (c 6), sv (g 7) b.O.length (c 7), sv (g 8) b.O.length (c 8), sv (g 9) b.O.length (c 9), sv (g 10) b.O.length (c 10), sv (g 11) b.O.length (c 11), sv (g 12) b.O.length (c 12), sv (g 13) b.R.length (c 13), sv (g 14) b.R.length (c 14)]), (bq, 27, bkV b A)] [Seg.row (g 0) 2 1 b.H.length (c 0) (i64s (colOf b.H 0)), Seg.row (g 1) 2 1 b.H.length (c 1) (i64s (colOf b.H 1)), Seg.row (g 2) 2 1 b.H.length (c 2) (i64s (colOf b.H 2)), Seg.row (g 3) 2 1 b.H.length (c 3) (i64s (colOf b.H 3)), Seg.row (g 4) 2 1 b.S.length (c 4) (i64s (colOf b.S 0)), Seg.row (g 5) 2 1 b.S.length (c 5) (i64s (colOf b.S 1)), Seg.row (g 6) 2 1 b.S.length (c 6) (i64s (colOf b.S 2)), Seg.row (g 7) 2 1 b.O.length (c 7) (i64s (colOf b.O 0)), Seg.row (g 8) 2 1 b.O.length (c 8) (i64s (colOf b.O 1)), Seg.row (g 9) 2 1 b.O.length (c 9) (i64s (colOf b.O 2)), Seg.row (g 10) 2 1 b.O.length (c 10) (i64s (colOf b.O 3)), Seg.row (g 11) 2 1 b.O.length (c 11) (i64s (colOf b.O 4)), Seg.row (g 12) 2 1 b.O.length (c 12) (i64s (colOf b.O 5)), Seg.row (g 13) 2 1 b.R.length (c 13) (i64s (colOf b.R 0)), Seg.row (g 14) 2 1 b.R.length (c 14) (i64s (colOf b.R 1))] b4 (0 + (i : Int).toNat * 1) [sv gg xs.length cc] := RdW.blk (i := 0) rfl (fun j u hu => by
      match j, hu with
      | 0, hu => simp only [List.getElem?_cons_zero, Option.some.injEq] at hu; subst hu; rw [show 0 + (i : Int).toNat * 1 + 0 = i by omega]; exact e1)
    have hP : CallOb Tryz.prog ⟨w, kys [] []⟩ [(b4, 78, [sv (g 0) b.H.length (c 0), sv (g 1) b.H.length (c 1), sv (g 2) b.H.length (c 2), sv (g 3) b.H.length (c 3), sv (g 4) b.S.length (c 4), sv (g 5) b.S.length (c 5), sv (g 6) b.S.length (c 6), sv (g 7) b.O.length (c 7), sv (g 8) b.O.length (c 8), sv (g 9) b.O.length (c 9), sv (g 10) b.O.length (c 10), sv (g 11) b.O.length (c 11), sv (g 12) b.O.length (c 12), sv (g 13) b.R.length (c 13), sv (g 14) b.R.length (c 14)]), (bq, 27, bkV b A)] [Seg.row (g 0) 2 1 b.H.length (c 0) (i64s (colOf b.H 0)), Seg.row (g 1) 2 1 b.H.length (c 1) (i64s (colOf b.H 1)), Seg.row (g 2) 2 1 b.H.length (c 2) (i64s (colOf b.H 2)), Seg.row (g 3) 2 1 b.H.length (c 3) (i64s (colOf b.H 3)), Seg.row (g 4) 2 1 b.S.length (c 4) (i64s (colOf b.S 0)), Seg.row (g 5) 2 1 b.S.length (c 5) (i64s (colOf b.S 1)), Seg.row (g 6) 2 1 b.S.length (c 6) (i64s (colOf b.S 2)), Seg.row (g 7) 2 1 b.O.length (c 7) (i64s (colOf b.O 0)), Seg.row (g 8) 2 1 b.O.length (c 8) (i64s (colOf b.O 1)), Seg.row (g 9) 2 1 b.O.length (c 9) (i64s (colOf b.O 2)), Seg.row (g 10) 2 1 b.O.length (c 10) (i64s (colOf b.O 3)), Seg.row (g 11) 2 1 b.O.length (c 11) (i64s (colOf b.O 4)), Seg.row (g 12) 2 1 b.O.length (c 12) (i64s (colOf b.O 5)), Seg.row (g 13) 2 1 b.R.length (c 13) (i64s (colOf b.R 0)), Seg.row (g 14) 2 1 b.R.length (c 14) (i64s (colOf b.R 1))] 36 [sv gg xs.length cc] (str (colL xs)) := fun w' hw' => Tryz.rPut_w xs (svA gg) cc w' hxl (SlOk.row (hw'.hp _ (List.mem_of_getElem? e3)))
    have htk := take_succ_get e2
    have hfb := flat_bound 1310730 (colsB b) i (colsB_bound b hi h1 h2 h3 h4)
    have hcx := colsB_bound b hi h1 h2 h3 h4 xs (List.mem_of_getElem? e2)
    have hnl := numL_len10 b.c.toNat (by simp only [inK] at hcc; omega)
    have hbd : (bl ⟨(numL b.c.toNat ++ ((colsB b).take i).flatMap colL).toArray⟩).length + (bl ⟨(colL xs).toArray⟩).length ≤ 9223372036854775807 := by
      rw [bl_str, bl_str, List.length_append]; omega
    refine At.run 100 true [true] [hR [sv gg xs.length cc], hC (str (colL xs))] rfl (by (repeat' apply And.intro) <;> first | exact hld | exact hP | exact hbd | exact True.intro | omega | rfl | (simp only [inK]; omega) | exact decide_eq_true (by omega) | exact decide_eq_false (by omega) | (simp; done) | (simp; omega) | (simp [Value.oneCell']; done) | exact i64s_one _ | exact AggOk.mk (by kernel_rfl) (by kernel_rfl)) ?_
    refine At.weak (ih (15 - (i + 1)) _ _ _ (by omega) ⟨i + 1, rfl, by omega, rfl, rfl, rfl⟩) ⟨rfl, ?_, rfl, some_int_eq (by omega), trivial⟩
    rw [htk, List.flatMap_append, ← List.append_assoc]; simp only [List.flatMap_cons, List.flatMap_nil, List.append_nil]; rfl
  · have : i = 15 := by omega
    subst this
    refine At.run 100 true [false] [] rfl (by (repeat' apply And.intro) <;> first | exact True.intro | omega | (simp only [inK]; omega) | (simp; done) | (simp; omega) | exact decide_eq_true (by omega) | exact decide_eq_false (by omega) | rfl | (simp [Value.oneCell']; done) | exact i64s_one _ | exact AggOk.mk (by kernel_rfl) (by kernel_rfl)) ?_
    exact At.retK [] [] [] rfl rfl Tryz.func11 rfl trivial ⟨by rw [← colsB_put]; rfl, rfl, rfl⟩

end Go.Proofs

/-
  Walks of layer 13: books got.
-/
namespace Go.Proofs
open Go Go.Eng
set_option maxRecDepth 100000
set_option maxHeartbeats 4000000
attribute [local irreducible] Tri

theorem At.cutAll {ι : Type} {C : Ctx} {x : Eng.Loc} {df : List Deferred} {env : Env} {bx : Bx} {hp : List Seg} {S : Base} (y : Eng.Loc) (e : ι → Env) (b : ι → Bx) (h : ι → List Seg)
    (hs : ∀ i, At C y df (e i) (b i) (h i) S) (hk : (∀ i, At C y df (e i) (b i) (h i) S) → At C x df env bx hp S) : At C x df env bx hp S := hk hs

/-- A field's functions: it is set by the second one, as the i-th number. -/
def SetOk (P : Program) (T sz i G : Nat) : Prop := ∀ (g n cap off : Nat) (v : Int) (xs : List Value) (w : World), off + sz ≤ xs.length → Own [] [Seg.row (some g) T sz n cap xs] w →
    Tri P G [.pointer (some ⟨g, off, none⟩), .int .i64 v] w (kys [] [Seg.row (some g) T sz n cap xs]) (fun u bx hp => u = .tuple #[] ∧ bx = [] ∧ hp = [Seg.row (some g) T sz n cap (putL xs (off + i) [.int .i64 v])])

theorem Tryz.holders2_w : SetOk Tryz.prog 46 4 0 54 := by
  intro g n cap off v xs w hl hown
  refine Tri.enter Tryz.func54 rfl (by kernel_rfl) rfl hown ?_
  refine At.run 100 true [] [] rfl trivial ?_
  refine At.step0 [] rfl rfl rfl rfl trivial (OpOk.storeRow 0 rfl rfl rfl rfl (by simp [Value.oneCell']) (by simp [Value.oneCell']) rfl (by simp only [List.length_cons, List.length_nil]; omega) ?_)
  refine At.run 100 true [] [] rfl trivial ?_
  exact At.ret [] rfl Tryz.func54 rfl trivial ⟨rfl, rfl, rfl⟩

theorem Tryz.holders4_w : SetOk Tryz.prog 46 4 1 56 := by
  intro g n cap off v xs w hl hown
  refine Tri.enter Tryz.func56 rfl (by kernel_rfl) rfl hown ?_
  refine At.run 100 true [] [] rfl trivial ?_
  refine At.step0 [] rfl rfl rfl rfl trivial (OpOk.storeRow 0 rfl rfl rfl rfl (by simp [Value.oneCell']) (by simp [Value.oneCell']) rfl (by simp only [List.length_cons, List.length_nil]; omega) ?_)
  refine At.run 100 true [] [] rfl trivial ?_
  exact At.ret [] rfl Tryz.func56 rfl trivial ⟨rfl, rfl, rfl⟩

theorem Tryz.holders6_w : SetOk Tryz.prog 46 4 2 58 := by
  intro g n cap off v xs w hl hown
  refine Tri.enter Tryz.func58 rfl (by kernel_rfl) rfl hown ?_
  refine At.run 100 true [] [] rfl trivial ?_
  refine At.step0 [] rfl rfl rfl rfl trivial (OpOk.storeRow 0 rfl rfl rfl rfl (by simp [Value.oneCell']) (by simp [Value.oneCell']) rfl (by simp only [List.length_cons, List.length_nil]; omega) ?_)
  refine At.run 100 true [] [] rfl trivial ?_
  exact At.ret [] rfl Tryz.func58 rfl trivial ⟨rfl, rfl, rfl⟩

theorem Tryz.holders8_w : SetOk Tryz.prog 46 4 3 60 := by
  intro g n cap off v xs w hl hown
  refine Tri.enter Tryz.func60 rfl (by kernel_rfl) rfl hown ?_
  refine At.run 100 true [] [] rfl trivial ?_
  refine At.step0 [] rfl rfl rfl rfl trivial (OpOk.storeRow 0 rfl rfl rfl rfl (by simp [Value.oneCell']) (by simp [Value.oneCell']) rfl (by simp only [List.length_cons, List.length_nil]; omega) ?_)
  refine At.run 100 true [] [] rfl trivial ?_
  exact At.ret [] rfl Tryz.func60 rfl trivial ⟨rfl, rfl, rfl⟩

theorem Tryz.holdersL_set (i : Nat) (hi : i < 4) : ∃ F G, Tryz.holdersL[i * 2]? = some (.func (.func F) ⟨[]⟩ ⟨[]⟩) ∧ Tryz.holdersL[i * 2 + 1]? = some (.func (.func G) ⟨[]⟩ ⟨[]⟩) ∧ SetOk Tryz.prog 46 4 i G := by
  match i, hi with
  | 0, _ => exact ⟨_, _, rfl, rfl, Tryz.holders2_w⟩
  | 1, _ => exact ⟨_, _, rfl, rfl, Tryz.holders4_w⟩
  | 2, _ => exact ⟨_, _, rfl, rfl, Tryz.holders6_w⟩
  | 3, _ => exact ⟨_, _, rfl, rfl, Tryz.holders8_w⟩

theorem Tryz.snapGetHolder_w (s : List UInt8) (e : Int) (u : Bool) (most gr gf : Nat) (w : World) (hm : most ≤ 65536) (hs : s.length ≤ 9223372036854775807)
    (hf : w.heap[gf]? = some (.cells Tryz.holdersL.toArray 103 (0, 0))) (hown : Own [(gr, 72, [str s, .int .i64 e, .bool u])] [] w) (hne : gf ∉ kys [(gr, 72, [str s, .int .i64 e, .bool u])] []) :
    Tri Tryz.prog 30 [.pointer (some ⟨gr, 0, none⟩), .int .i64 most, sv (some gf) 4 4] w (kys [(gr, 72, [str s, .int .i64 e, .bool u])] [])
      (fun v bx hp => ∃ a m xs s' e' u', v = sv a m m ∧ bx = [(gr, 72, [str s', .int .i64 e', .bool u'])] ∧ hp = [Seg.row a 46 4 m m xs] ∧ GetR most 4 s e u m xs s' e' u') := by
  refine Tri.enter Tryz.func30 rfl (by kernel_rfl) rfl hown ?_
  refine At.run 100 true [] [] rfl trivial ?_
  refine At.nilRow 46 4 ?_
  refine At.loop (n := 4) (env0 := [(0, .pointer (some ⟨gr, 0, none⟩)), (1, .int .i64 most), (7, sv none 0 0), (14, .slice (some ⟨gf, 0, none⟩) 4 4), (15, .int .i64 4), (16, .int .i64 0)]) (fun mm env bx hp => ∃ (i m : Nat) (a : Option Nat) (xs : List Value) (s' : List UInt8) (e' : Int) (u' : Bool), mm = 4 - i ∧ i ≤ 4 ∧
    env = [(0, .pointer (some ⟨gr, 0, none⟩)), (1, .int .i64 most), (7, sv a m m), (14, .slice (some ⟨gf, 0, none⟩) 4 4), (15, .int .i64 4), (16, .int .i64 i)] ∧ bx = [(gr, 72, [str s', .int .i64 e', .bool u'])] ∧ hp = [Seg.row a 46 4 m m xs] ∧ GetI most 4 s e u i a m xs s' e' u') rfl
    ⟨0, 0, none, [], s, e, u, rfl, by omega, rfl, rfl, rfl, GetI.zero _ _ _ _ _⟩ ⟨rfl, rfl, rfl, rfl, rfl, rfl, trivial⟩ ?_
  rintro mm env bx hp ⟨i, m, a, xs, s', e', u', rfl, hi, rfl, rfl, rfl, hI⟩ ih
  by_cases hlt : i < 4
  · obtain ⟨F, G, hF, hG, hset⟩ := Tryz.holdersL_set i hlt
    have hld : ∀ {bx : Bx} {hp : List Seg}, RdW ⟨w, kys [(gr, 72, [str s, .int .i64 e, .bool u])] []⟩ bx hp gf (0 + (i : Int).toNat * 2) [.func (.func F) ⟨[]⟩ ⟨[]⟩, .func (.func G) ⟨[]⟩ ⟨[]⟩] := fun {_ _} => RdW.blkB hne hf (fun j u hu => by
      match j, hu with
      | 0, hu => simp at hu; subst hu; rw [show 0 + (i : Int).toNat * 2 + 0 = i * 2 by omega]; exact hF
      | 1, hu => simp at hu; subst hu; rw [show 0 + (i : Int).toNat * 2 + 1 = i * 2 + 1 by omega]; exact hG)
    refine At.run 100 true [true] [hR [.func (.func F) ⟨[]⟩ ⟨[]⟩, .func (.func G) ⟨[]⟩ ⟨[]⟩]] rfl (by (repeat' apply And.intro) <;> first | exact hld | exact True.intro | omega | rfl | (simp only [inK]; omega) | exact decide_eq_true (by omega) | exact decide_eq_false (by omega) | (simp; done) | (simp; omega) | (simp [Value.oneCell']; done) | exact i64s_one _ | exact AggOk.mk (by kernel_rfl) (by kernel_rfl)) ?_
    refine At.step [] rfl rfl rfl rfl rfl trivial (OpOk.alloc (cs := [.nilFunc, .nilFunc]) rfl (by kernel_rfl) fun b9 hb9 => ?_)
    by_cases he : e' = 0
    · subst he
      obtain ⟨rfl, cs, hcs, hcl, -, hxs⟩ := hI.ok rfl
      refine At.run 100 true [false] [hB 0, hB 1, hB 1] rfl (by (repeat' apply And.intro) <;> first | exact True.intro | omega | (simp only [inK]; omega) | (simp; done) | (simp; omega) | exact decide_eq_true (by omega) | exact decide_eq_false (by omega) | rfl | (simp [Value.oneCell']; done) | exact i64s_one _ | exact AggOk.mk (by kernel_rfl) (by kernel_rfl)) ?_
      have hcg := fun w' => Tryz.ColGet_w ⟨s'.toArray⟩ most w' hm (by rw [bl_str]; have := hI.slen; omega)
      simp only [bl_str] at hcg
      have hca := colG_a s' most
      have hcln := colG_len s' most
      obtain ⟨c, k, ee, hGc⟩ : ∃ c k ee, colG s' most = (c, k, ee) := ⟨_, _, _, rfl⟩
      rw [hGc] at hcg hca hcln
      simp only at hcg hca hcln
      refine At.step [] rfl rfl rfl rfl rfl trivial (OpOk.call rfl (fun w' _ => hcg w') ?_)
      rintro v bx' hp' ⟨cg, cc, rfl, rfl, rfl⟩
      have hsl := hI.slen
      have hk2 : (k : Int) ≤ ((bl ⟨s'.toArray⟩).length : Int) := by rw [bl_str]; omega
      refine At.cutAll (ι := {q : Nat × Nat × List Value // GetC most 4 i q.2.1 cs c q.2.2}) ⟨0, [1, 0, 1, 1, 1, 1, 1, 0, 0, 1, 1, 0, 0, 1, 0, 1, 1], []⟩ (fun q => [(0, .pointer (some ⟨gr, 0, none⟩)), (1, .int .i64 most), (7, sv (some q.1.1) q.1.2.1 q.1.2.1), (9, .pointer (some ⟨b9, 0, none⟩)), (10, sv cg c.length cc), (14, .slice (some ⟨gf, 0, none⟩) 4 4), (15, .int .i64 4), (16, .int .i64 i), (58, .bool (!decide ((c.length : Int) = q.1.2.1)))]) (fun _ => [(b9, 103, [.func (.func F) ⟨[]⟩ ⟨[]⟩, .func (.func G) ⟨[]⟩ ⟨[]⟩]), (gr, 72, [str (s'.drop k), .int .i64 ee, .bool u'])]) (fun q => [Seg.row (some q.1.1) 46 4 q.1.2.1 q.1.2.1 q.1.2.2, Seg.row cg 2 1 c.length cc (i64s c)]) ?_ (fun hz => ?_)
      · rintro ⟨⟨g, m', ys⟩, hC⟩
        replace hC : GetC most 4 i m' cs c ys := hC
        have hC1 : ys.length = m' * 4 := hC.1
        have hC2 : m' ≤ most := hC.2.1
        by_cases hlen : c.length = m'
        · refine At.run 100 true [false] [] rfl (by (repeat' apply And.intro) <;> first | exact True.intro | omega | (simp only [inK]; omega) | (simp; done) | (simp; omega) | exact decide_eq_true (by omega) | exact decide_eq_false (by omega) | rfl | (simp [Value.oneCell']; done) | exact i64s_one _ | exact AggOk.mk (by kernel_rfl) (by kernel_rfl)) ?_
          refine At.loop (n := c.length) (env0 := [(0, .pointer (some ⟨gr, 0, none⟩)), (1, .int .i64 most), (7, sv (some g) m' m'), (9, .pointer (some ⟨b9, 0, none⟩)), (10, sv cg c.length cc), (14, .slice (some ⟨gf, 0, none⟩) 4 4), (15, .int .i64 4), (16, .int .i64 i), (63, .int .i64 c.length), (64, .int .i64 0)]) (fun mm env bx hp => ∃ (j : Nat) (zs : List Value), mm = c.length - j ∧ j ≤ c.length ∧
            env = [(0, .pointer (some ⟨gr, 0, none⟩)), (1, .int .i64 most), (7, sv (some g) m' m'), (9, .pointer (some ⟨b9, 0, none⟩)), (10, sv cg c.length cc), (14, .slice (some ⟨gf, 0, none⟩) 4 4), (15, .int .i64 4), (16, .int .i64 i), (63, .int .i64 c.length), (64, .int .i64 j)] ∧ bx = [(b9, 103, [.func (.func F) ⟨[]⟩ ⟨[]⟩, .func (.func G) ⟨[]⟩ ⟨[]⟩]), (gr, 72, [str (s'.drop k), .int .i64 ee, .bool u'])] ∧ hp = [Seg.row (some g) 46 4 m' m' zs, Seg.row cg 2 1 c.length cc (i64s c)] ∧ zs.length = m' * 4 ∧ (evenB cs = true → zs = (rowsT 4 m' (cs ++ [c.take j])).flatMap i64s)) rfl
            ⟨0, ys, rfl, by omega, rfl, rfl, rfl, hC1, fun h => by rw [List.take_zero, rowsT_nil_snoc]; exact (hC.2.2 h).2⟩ ⟨rfl, rfl, rfl, rfl, rfl, rfl, rfl, rfl, rfl, rfl, trivial⟩ ?_
          rintro mm env bx hp ⟨j, zs, rfl, hj, rfl, rfl, rfl, hzl, hzs⟩ ih2
          by_cases hjl : j < c.length
          · obtain ⟨x, hx⟩ : ∃ x, c[j]? = some x := ⟨_, List.getElem?_eq_getElem hjl⟩
            refine At.rowSome 1 rfl (by omega) (fun g2 hg2 => ?_)
            subst hg2
            have hst := rowsT_set (sz := 4) (n := m') (cs := cs) (c := c) (j := j) (x := x) (by omega) (by omega) hx
            refine At.run 100 true [true] [] rfl (by (repeat' apply And.intro) <;> first | exact True.intro | omega | (simp only [inK]; omega) | (simp; done) | (simp; omega) | exact decide_eq_true (by omega) | exact decide_eq_false (by omega) | rfl | (simp [Value.oneCell']; done) | exact i64s_one _ | exact AggOk.mk (by kernel_rfl) (by kernel_rfl)) ?_
            have r1 : RdW ⟨w, kys [(gr, 72, [str s, .int .i64 0, .bool u])] []⟩ [(b9, 103, [.func (.func F) ⟨[]⟩ ⟨[]⟩, .func (.func G) ⟨[]⟩ ⟨[]⟩]), (gr, 72, [str (s'.drop k), .int .i64 ee, .bool u'])] [Seg.row (some g) 46 4 m' m' zs, Seg.row (some g2) 2 1 c.length cc (i64s c)] g2 (0 + (j : Int).toNat * 1) [.int .i64 x] := RdW.row (j := 1) rfl (fun i' u' hu => by
              match i', hu with
              | 0, hu => simp at hu; subst hu; rw [show 0 + (j : Int).toNat * 1 + 0 = j by omega]; exact i64s_get hx)
            refine At.quietT 9 1 true [] [hB 0, hR [.int .i64 x]] ⟨by kernel_rfl, by kernel_rfl, rfl, by kernel_rfl, by kernel_rfl, by kernel_rfl, rfl, rfl, rfl⟩ rfl rfl rfl (by (repeat' apply And.intro) <;> first | exact r1 | exact True.intro | omega | rfl | (simp only [inK]; omega) | exact decide_eq_true (by omega) | exact decide_eq_false (by omega) | (simp; done) | (simp; omega) | (simp [Value.oneCell']; done) | exact i64s_one _ | exact AggOk.mk (by kernel_rfl) (by kernel_rfl)) rfl ?_
            refine AtD.fork1 9 (by kernel_rfl) (StepD.by [] rfl rfl rfl rfl trivial (OpOk.callO [] [true] rfl rfl (fun w' hw' hown => hset g m' m' (0 + (j : Int).toNat * 4) x zs w' (by rw [hzl]; omega) hown) ?_))
            rintro v bx' hp' ⟨rfl, rfl, rfl⟩
            refine AtD.done (by kernel_rfl) ?_
            refine At.run 100 true [] [] rfl (by (repeat' apply And.intro) <;> first | exact True.intro | omega | (simp only [inK]; omega) | (simp; done) | (simp; omega) | exact decide_eq_true (by omega) | exact decide_eq_false (by omega) | rfl | (simp [Value.oneCell']; done) | exact i64s_one _ | exact AggOk.mk (by kernel_rfl) (by kernel_rfl)) ?_
            refine At.weak (ih2 (c.length - (j + 1)) _ _ _ (by omega) ⟨j + 1, _, rfl, by omega, rfl, rfl, rfl, by rw [putL_one_len]; exact hzl, fun h => ?_⟩) ⟨rfl, rfl, rfl, rfl, rfl, rfl, rfl, rfl, rfl, some_int_eq (by omega), trivial⟩
            rw [← hst, ← hzs h, hcl, show 0 + (j : Int).toNat * 4 + i = j * 4 + i by omega]
          · have : j = c.length := by omega
            subst this
            rw [List.take_length] at hzs
            refine At.run 100 true [false] [] rfl (by (repeat' apply And.intro) <;> first | exact True.intro | omega | (simp only [inK]; omega) | (simp; done) | (simp; omega) | exact decide_eq_true (by omega) | exact decide_eq_false (by omega) | rfl | (simp [Value.oneCell']; done) | exact i64s_one _ | exact AggOk.mk (by kernel_rfl) (by kernel_rfl)) ?_
            refine At.keep [false, true] [true] rfl ?_
            exact At.weak (ih (4 - (i + 1)) _ _ _ (by omega) ⟨i + 1, m', some g, zs, s'.drop k, ee, u', rfl, by omega, rfl, rfl, rfl, hI.even hlt hcs hGc hC hlen hzl hzs g⟩) ⟨rfl, rfl, rfl, rfl, rfl, some_int_eq (by omega), trivial⟩
        · refine At.run 100 true [true] [hB 1] rfl (by (repeat' apply And.intro) <;> first | exact True.intro | omega | (simp only [inK]; omega) | (simp; done) | (simp; omega) | exact decide_eq_true (by omega) | exact decide_eq_false (by omega) | rfl | (simp [Value.oneCell']; done) | exact i64s_one _ | exact AggOk.mk (by kernel_rfl) (by kernel_rfl)) ?_
          refine At.keep [false, true] [true] rfl ?_
          exact At.weak (ih (4 - (i + 1)) _ _ _ (by omega) ⟨i + 1, m', some g, ys, s'.drop k, ee, true, rfl, by omega, rfl, rfl, rfl, hI.odd hlt hcs hGc hC hlen g⟩) ⟨rfl, rfl, rfl, rfl, rfl, some_int_eq (by omega), trivial⟩
      · by_cases hi0 : i = 0
        · subst hi0
          have hcs0 : cs = [] := List.length_eq_zero_iff.1 hcl
          refine At.run 100 true [true] [hB 1, hB 1, hB 1] rfl (by (repeat' apply And.intro) <;> first | exact hk2 | exact True.intro | omega | rfl | (simp only [inK]; omega) | exact decide_eq_true (by omega) | exact decide_eq_false (by omega) | (simp; done) | (simp; omega) | (simp [Value.oneCell']; done) | exact i64s_one _ | exact AggOk.mk (by kernel_rfl) (by kernel_rfl)) ?_
          refine At.step [] rfl rfl rfl rfl rfl trivial (OpOk.makeSlice (sz := 4) (by_ := 32) (xs := List.replicate (c.length * 4) (.int .i64 0)) c.length rfl rfl rfl rfl rfl rfl (by omega) (by omega) (by omega) (by simp) (fun j hj => rep_get (n := 4) (by omega) hj) (by decide) (fun g => ?_))
          refine At.run 100 true [] [] rfl (by (repeat' apply And.intro) <;> first | exact True.intro | omega | (simp only [inK]; omega) | (simp; done) | (simp; omega) | exact decide_eq_true (by omega) | exact decide_eq_false (by omega) | rfl | (simp [Value.oneCell']; done) | exact i64s_one _ | exact AggOk.mk (by kernel_rfl) (by kernel_rfl)) ?_
          refine At.keep [true, true] [true, true] rfl ?_
          exact At.weak (hz ⟨(g, c.length, List.replicate (c.length * 4) (.int .i64 0)), by simp, hcln, fun _ => ⟨rfl, by rw [hcs0]; exact (rowsT_zero _ _).symm⟩⟩) ⟨rfl, rfl, rfl, rfl, rfl, rfl, rfl, rfl, rfl, trivial⟩
        · obtain ⟨g, rfl⟩ := hI.has (by omega)
          refine At.run 100 true [false] [hB 1, hB 1, hB 1] rfl (by (repeat' apply And.intro) <;> first | exact hk2 | exact True.intro | omega | rfl | (simp only [inK]; omega) | exact decide_eq_true (by omega) | exact decide_eq_false (by omega) | (simp; done) | (simp; omega) | (simp [Value.oneCell']; done) | exact i64s_one _ | exact AggOk.mk (by kernel_rfl) (by kernel_rfl)) ?_
          refine At.perm (List.Perm.refl _) (List.Perm.swap _ _ _) ?_
          exact At.weak (hz ⟨(g, m, xs), hI.len, hI.le, fun h => ⟨by rw [if_neg hi0]; exact (hxs (by omega) h).1, (hxs (by omega) h).2⟩⟩) ⟨rfl, rfl, rfl, rfl, rfl, rfl, rfl, rfl, rfl, trivial⟩
    · refine At.run 100 true [true] [hB 0, hB 1] rfl (by (repeat' apply And.intro) <;> first | exact True.intro | omega | (simp only [inK]; omega) | (simp; done) | (simp; omega) | exact decide_eq_true (by omega) | exact decide_eq_false (by omega) | rfl | (simp [Value.oneCell']; done) | exact i64s_one _ | exact AggOk.mk (by kernel_rfl) (by kernel_rfl)) ?_
      refine At.keep [false, true] [] rfl ?_
      refine At.nilRow 46 4 ?_
      exact At.ret [] rfl Tryz.func30 rfl trivial ⟨none, 0, [], s', e', u', rfl, rfl, rfl, hI.stop he⟩
  · have : i = 4 := by omega
    subst this
    refine At.run 100 true [false] [] rfl (by (repeat' apply And.intro) <;> first | exact True.intro | omega | (simp only [inK]; omega) | (simp; done) | (simp; omega) | exact decide_eq_true (by omega) | exact decide_eq_false (by omega) | rfl | (simp [Value.oneCell']; done) | exact i64s_one _ | exact AggOk.mk (by kernel_rfl) (by kernel_rfl)) ?_
    exact At.ret [] rfl Tryz.func30 rfl trivial ⟨a, m, xs, s', e', u', rfl, rfl, rfl, hI.fin (by decide)⟩

end Go.Proofs

/-
  Walks of layer 13: books got.
-/
namespace Go.Proofs
open Go Go.Eng
set_option maxRecDepth 100000
set_option maxHeartbeats 4000000
attribute [local irreducible] Tri

theorem Tryz.stakes2_w : SetOk Tryz.prog 51 3 0 62 := by
  intro g n cap off v xs w hl hown
  refine Tri.enter Tryz.func62 rfl (by kernel_rfl) rfl hown ?_
  refine At.run 100 true [] [] rfl trivial ?_
  refine At.step0 [] rfl rfl rfl rfl trivial (OpOk.storeRow 0 rfl rfl rfl rfl (by simp [Value.oneCell']) (by simp [Value.oneCell']) rfl (by simp only [List.length_cons, List.length_nil]; omega) ?_)
  refine At.run 100 true [] [] rfl trivial ?_
  exact At.ret [] rfl Tryz.func62 rfl trivial ⟨rfl, rfl, rfl⟩

theorem Tryz.stakes4_w : SetOk Tryz.prog 51 3 1 64 := by
  intro g n cap off v xs w hl hown
  refine Tri.enter Tryz.func64 rfl (by kernel_rfl) rfl hown ?_
  refine At.run 100 true [] [] rfl trivial ?_
  refine At.step0 [] rfl rfl rfl rfl trivial (OpOk.storeRow 0 rfl rfl rfl rfl (by simp [Value.oneCell']) (by simp [Value.oneCell']) rfl (by simp only [List.length_cons, List.length_nil]; omega) ?_)
  refine At.run 100 true [] [] rfl trivial ?_
  exact At.ret [] rfl Tryz.func64 rfl trivial ⟨rfl, rfl, rfl⟩

theorem Tryz.stakes6_w : SetOk Tryz.prog 51 3 2 66 := by
  intro g n cap off v xs w hl hown
  refine Tri.enter Tryz.func66 rfl (by kernel_rfl) rfl hown ?_
  refine At.run 100 true [] [] rfl trivial ?_
  refine At.step0 [] rfl rfl rfl rfl trivial (OpOk.storeRow 0 rfl rfl rfl rfl (by simp [Value.oneCell']) (by simp [Value.oneCell']) rfl (by simp only [List.length_cons, List.length_nil]; omega) ?_)
  refine At.run 100 true [] [] rfl trivial ?_
  exact At.ret [] rfl Tryz.func66 rfl trivial ⟨rfl, rfl, rfl⟩

theorem Tryz.stakesL_set (i : Nat) (hi : i < 3) : ∃ F G, Tryz.stakesL[i * 2]? = some (.func (.func F) ⟨[]⟩ ⟨[]⟩) ∧ Tryz.stakesL[i * 2 + 1]? = some (.func (.func G) ⟨[]⟩ ⟨[]⟩) ∧ SetOk Tryz.prog 51 3 i G := by
  match i, hi with
  | 0, _ => exact ⟨_, _, rfl, rfl, Tryz.stakes2_w⟩
  | 1, _ => exact ⟨_, _, rfl, rfl, Tryz.stakes4_w⟩
  | 2, _ => exact ⟨_, _, rfl, rfl, Tryz.stakes6_w⟩

theorem Tryz.snapGetStake_w (s : List UInt8) (e : Int) (u : Bool) (most gr gf : Nat) (w : World) (hm : most ≤ 65536) (hs : s.length ≤ 9223372036854775807)
    (hf : w.heap[gf]? = some (.cells Tryz.stakesL.toArray 109 (0, 0))) (hown : Own [(gr, 72, [str s, .int .i64 e, .bool u])] [] w) (hne : gf ∉ kys [(gr, 72, [str s, .int .i64 e, .bool u])] []) :
    Tri Tryz.prog 31 [.pointer (some ⟨gr, 0, none⟩), .int .i64 most, sv (some gf) 3 3] w (kys [(gr, 72, [str s, .int .i64 e, .bool u])] [])
      (fun v bx hp => ∃ a m xs s' e' u', v = sv a m m ∧ bx = [(gr, 72, [str s', .int .i64 e', .bool u'])] ∧ hp = [Seg.row a 51 3 m m xs] ∧ GetR most 3 s e u m xs s' e' u') := by
  refine Tri.enter Tryz.func31 rfl (by kernel_rfl) rfl hown ?_
  refine At.run 100 true [] [] rfl trivial ?_
  refine At.nilRow 51 3 ?_
  refine At.loop (n := 3) (env0 := [(0, .pointer (some ⟨gr, 0, none⟩)), (1, .int .i64 most), (7, sv none 0 0), (14, .slice (some ⟨gf, 0, none⟩) 3 3), (15, .int .i64 3), (16, .int .i64 0)]) (fun mm env bx hp => ∃ (i m : Nat) (a : Option Nat) (xs : List Value) (s' : List UInt8) (e' : Int) (u' : Bool), mm = 3 - i ∧ i ≤ 3 ∧
    env = [(0, .pointer (some ⟨gr, 0, none⟩)), (1, .int .i64 most), (7, sv a m m), (14, .slice (some ⟨gf, 0, none⟩) 3 3), (15, .int .i64 3), (16, .int .i64 i)] ∧ bx = [(gr, 72, [str s', .int .i64 e', .bool u'])] ∧ hp = [Seg.row a 51 3 m m xs] ∧ GetI most 3 s e u i a m xs s' e' u') rfl
    ⟨0, 0, none, [], s, e, u, rfl, by omega, rfl, rfl, rfl, GetI.zero _ _ _ _ _⟩ ⟨rfl, rfl, rfl, rfl, rfl, rfl, trivial⟩ ?_
  rintro mm env bx hp ⟨i, m, a, xs, s', e', u', rfl, hi, rfl, rfl, rfl, hI⟩ ih
  by_cases hlt : i < 3
  · obtain ⟨F, G, hF, hG, hset⟩ := Tryz.stakesL_set i hlt
    have hld : ∀ {bx : Bx} {hp : List Seg}, RdW ⟨w, kys [(gr, 72, [str s, .int .i64 e, .bool u])] []⟩ bx hp gf (0 + (i : Int).toNat * 2) [.func (.func F) ⟨[]⟩ ⟨[]⟩, .func (.func G) ⟨[]⟩ ⟨[]⟩] := fun {_ _} => RdW.blkB hne hf (fun j u hu => by
      match j, hu with
      | 0, hu => simp at hu; subst hu; rw [show 0 + (i : Int).toNat * 2 + 0 = i * 2 by omega]; exact hF
      | 1, hu => simp at hu; subst hu; rw [show 0 + (i : Int).toNat * 2 + 1 = i * 2 + 1 by omega]; exact hG)
    refine At.run 100 true [true] [hR [.func (.func F) ⟨[]⟩ ⟨[]⟩, .func (.func G) ⟨[]⟩ ⟨[]⟩]] rfl (by (repeat' apply And.intro) <;> first | exact hld | exact True.intro | omega | rfl | (simp only [inK]; omega) | exact decide_eq_true (by omega) | exact decide_eq_false (by omega) | (simp; done) | (simp; omega) | (simp [Value.oneCell']; done) | exact i64s_one _ | exact AggOk.mk (by kernel_rfl) (by kernel_rfl)) ?_
    refine At.step [] rfl rfl rfl rfl rfl trivial (OpOk.alloc (cs := [.nilFunc, .nilFunc]) rfl (by kernel_rfl) fun b9 hb9 => ?_)
    by_cases he : e' = 0
    · subst he
      obtain ⟨rfl, cs, hcs, hcl, -, hxs⟩ := hI.ok rfl
      refine At.run 100 true [false] [hB 0, hB 1, hB 1] rfl (by (repeat' apply And.intro) <;> first | exact True.intro | omega | (simp only [inK]; omega) | (simp; done) | (simp; omega) | exact decide_eq_true (by omega) | exact decide_eq_false (by omega) | rfl | (simp [Value.oneCell']; done) | exact i64s_one _ | exact AggOk.mk (by kernel_rfl) (by kernel_rfl)) ?_
      have hcg := fun w' => Tryz.ColGet_w ⟨s'.toArray⟩ most w' hm (by rw [bl_str]; have := hI.slen; omega)
      simp only [bl_str] at hcg
      have hca := colG_a s' most
      have hcln := colG_len s' most
      obtain ⟨c, k, ee, hGc⟩ : ∃ c k ee, colG s' most = (c, k, ee) := ⟨_, _, _, rfl⟩
      rw [hGc] at hcg hca hcln
      simp only at hcg hca hcln
      refine At.step [] rfl rfl rfl rfl rfl trivial (OpOk.call rfl (fun w' _ => hcg w') ?_)
      rintro v bx' hp' ⟨cg, cc, rfl, rfl, rfl⟩
      have hsl := hI.slen
      have hk2 : (k : Int) ≤ ((bl ⟨s'.toArray⟩).length : Int) := by rw [bl_str]; omega
      refine At.cutAll (ι := {q : Nat × Nat × List Value // GetC most 3 i q.2.1 cs c q.2.2}) ⟨0, [1, 0, 1, 1, 1, 1, 1, 0, 0, 1, 1, 0, 0, 1, 0, 1, 1], []⟩ (fun q => [(0, .pointer (some ⟨gr, 0, none⟩)), (1, .int .i64 most), (7, sv (some q.1.1) q.1.2.1 q.1.2.1), (9, .pointer (some ⟨b9, 0, none⟩)), (10, sv cg c.length cc), (14, .slice (some ⟨gf, 0, none⟩) 3 3), (15, .int .i64 3), (16, .int .i64 i), (58, .bool (!decide ((c.length : Int) = q.1.2.1)))]) (fun _ => [(b9, 109, [.func (.func F) ⟨[]⟩ ⟨[]⟩, .func (.func G) ⟨[]⟩ ⟨[]⟩]), (gr, 72, [str (s'.drop k), .int .i64 ee, .bool u'])]) (fun q => [Seg.row (some q.1.1) 51 3 q.1.2.1 q.1.2.1 q.1.2.2, Seg.row cg 2 1 c.length cc (i64s c)]) ?_ (fun hz => ?_)
      · rintro ⟨⟨g, m', ys⟩, hC⟩
        replace hC : GetC most 3 i m' cs c ys := hC
        have hC1 : ys.length = m' * 3 := hC.1
        have hC2 : m' ≤ most := hC.2.1
        by_cases hlen : c.length = m'
        · refine At.run 100 true [false] [] rfl (by (repeat' apply And.intro) <;> first | exact True.intro | omega | (simp only [inK]; omega) | (simp; done) | (simp; omega) | exact decide_eq_true (by omega) | exact decide_eq_false (by omega) | rfl | (simp [Value.oneCell']; done) | exact i64s_one _ | exact AggOk.mk (by kernel_rfl) (by kernel_rfl)) ?_
          refine At.loop (n := c.length) (env0 := [(0, .pointer (some ⟨gr, 0, none⟩)), (1, .int .i64 most), (7, sv (some g) m' m'), (9, .pointer (some ⟨b9, 0, none⟩)), (10, sv cg c.length cc), (14, .slice (some ⟨gf, 0, none⟩) 3 3), (15, .int .i64 3), (16, .int .i64 i), (63, .int .i64 c.length), (64, .int .i64 0)]) (fun mm env bx hp => ∃ (j : Nat) (zs : List Value), mm = c.length - j ∧ j ≤ c.length ∧
            env = [(0, .pointer (some ⟨gr, 0, none⟩)), (1, .int .i64 most), (7, sv (some g) m' m'), (9, .pointer (some ⟨b9, 0, none⟩)), (10, sv cg c.length cc), (14, .slice (some ⟨gf, 0, none⟩) 3 3), (15, .int .i64 3), (16, .int .i64 i), (63, .int .i64 c.length), (64, .int .i64 j)] ∧ bx = [(b9, 109, [.func (.func F) ⟨[]⟩ ⟨[]⟩, .func (.func G) ⟨[]⟩ ⟨[]⟩]), (gr, 72, [str (s'.drop k), .int .i64 ee, .bool u'])] ∧ hp = [Seg.row (some g) 51 3 m' m' zs, Seg.row cg 2 1 c.length cc (i64s c)] ∧ zs.length = m' * 3 ∧ (evenB cs = true → zs = (rowsT 3 m' (cs ++ [c.take j])).flatMap i64s)) rfl
            ⟨0, ys, rfl, by omega, rfl, rfl, rfl, hC1, fun h => by rw [List.take_zero, rowsT_nil_snoc]; exact (hC.2.2 h).2⟩ ⟨rfl, rfl, rfl, rfl, rfl, rfl, rfl, rfl, rfl, rfl, trivial⟩ ?_
          rintro mm env bx hp ⟨j, zs, rfl, hj, rfl, rfl, rfl, hzl, hzs⟩ ih2
          by_cases hjl : j < c.length
          · obtain ⟨x, hx⟩ : ∃ x, c[j]? = some x := ⟨_, List.getElem?_eq_getElem hjl⟩
            refine At.rowSome 1 rfl (by omega) (fun g2 hg2 => ?_)
            subst hg2
            have hst := rowsT_set (sz := 3) (n := m') (cs := cs) (c := c) (j := j) (x := x) (by omega) (by omega) hx
            refine At.run 100 true [true] [] rfl (by (repeat' apply And.intro) <;> first | exact True.intro | omega | (simp only [inK]; omega) | (simp; done) | (simp; omega) | exact decide_eq_true (by omega) | exact decide_eq_false (by omega) | rfl | (simp [Value.oneCell']; done) | exact i64s_one _ | exact AggOk.mk (by kernel_rfl) (by kernel_rfl)) ?_
            have r1 : RdW ⟨w, kys [(gr, 72, [str s, .int .i64 0, .bool u])] []⟩ [(b9, 109, [.func (.func F) ⟨[]⟩ ⟨[]⟩, .func (.func G) ⟨[]⟩ ⟨[]⟩]), (gr, 72, [str (s'.drop k), .int .i64 ee, .bool u'])] [Seg.row (some g) 51 3 m' m' zs, Seg.row (some g2) 2 1 c.length cc (i64s c)] g2 (0 + (j : Int).toNat * 1) [.int .i64 x] := RdW.row (j := 1) rfl (fun i' u' hu => by
              match i', hu with
              | 0, hu => simp at hu; subst hu; rw [show 0 + (j : Int).toNat * 1 + 0 = j by omega]; exact i64s_get hx)
            refine At.quietT 9 1 true [] [hB 0, hR [.int .i64 x]] ⟨by kernel_rfl, by kernel_rfl, rfl, by kernel_rfl, by kernel_rfl, by kernel_rfl, rfl, rfl, rfl⟩ rfl rfl rfl (by (repeat' apply And.intro) <;> first | exact r1 | exact True.intro | omega | rfl | (simp only [inK]; omega) | exact decide_eq_true (by omega) | exact decide_eq_false (by omega) | (simp; done) | (simp; omega) | (simp [Value.oneCell']; done) | exact i64s_one _ | exact AggOk.mk (by kernel_rfl) (by kernel_rfl)) rfl ?_
            refine AtD.fork1 9 (by kernel_rfl) (StepD.by [] rfl rfl rfl rfl trivial (OpOk.callO [] [true] rfl rfl (fun w' hw' hown => hset g m' m' (0 + (j : Int).toNat * 3) x zs w' (by rw [hzl]; omega) hown) ?_))
            rintro v bx' hp' ⟨rfl, rfl, rfl⟩
            refine AtD.done (by kernel_rfl) ?_
            refine At.run 100 true [] [] rfl (by (repeat' apply And.intro) <;> first | exact True.intro | omega | (simp only [inK]; omega) | (simp; done) | (simp; omega) | exact decide_eq_true (by omega) | exact decide_eq_false (by omega) | rfl | (simp [Value.oneCell']; done) | exact i64s_one _ | exact AggOk.mk (by kernel_rfl) (by kernel_rfl)) ?_
            refine At.weak (ih2 (c.length - (j + 1)) _ _ _ (by omega) ⟨j + 1, _, rfl, by omega, rfl, rfl, rfl, by rw [putL_one_len]; exact hzl, fun h => ?_⟩) ⟨rfl, rfl, rfl, rfl, rfl, rfl, rfl, rfl, rfl, some_int_eq (by omega), trivial⟩
            rw [← hst, ← hzs h, hcl, show 0 + (j : Int).toNat * 3 + i = j * 3 + i by omega]
          · have : j = c.length := by omega
            subst this
            rw [List.take_length] at hzs
            refine At.run 100 true [false] [] rfl (by (repeat' apply And.intro) <;> first | exact True.intro | omega | (simp only [inK]; omega) | (simp; done) | (simp; omega) | exact decide_eq_true (by omega) | exact decide_eq_false (by omega) | rfl | (simp [Value.oneCell']; done) | exact i64s_one _ | exact AggOk.mk (by kernel_rfl) (by kernel_rfl)) ?_
            refine At.keep [false, true] [true] rfl ?_
            exact At.weak (ih (3 - (i + 1)) _ _ _ (by omega) ⟨i + 1, m', some g, zs, s'.drop k, ee, u', rfl, by omega, rfl, rfl, rfl, hI.even hlt hcs hGc hC hlen hzl hzs g⟩) ⟨rfl, rfl, rfl, rfl, rfl, some_int_eq (by omega), trivial⟩
        · refine At.run 100 true [true] [hB 1] rfl (by (repeat' apply And.intro) <;> first | exact True.intro | omega | (simp only [inK]; omega) | (simp; done) | (simp; omega) | exact decide_eq_true (by omega) | exact decide_eq_false (by omega) | rfl | (simp [Value.oneCell']; done) | exact i64s_one _ | exact AggOk.mk (by kernel_rfl) (by kernel_rfl)) ?_
          refine At.keep [false, true] [true] rfl ?_
          exact At.weak (ih (3 - (i + 1)) _ _ _ (by omega) ⟨i + 1, m', some g, ys, s'.drop k, ee, true, rfl, by omega, rfl, rfl, rfl, hI.odd hlt hcs hGc hC hlen g⟩) ⟨rfl, rfl, rfl, rfl, rfl, some_int_eq (by omega), trivial⟩
      · by_cases hi0 : i = 0
        · subst hi0
          have hcs0 : cs = [] := List.length_eq_zero_iff.1 hcl
          refine At.run 100 true [true] [hB 1, hB 1, hB 1] rfl (by (repeat' apply And.intro) <;> first | exact hk2 | exact True.intro | omega | rfl | (simp only [inK]; omega) | exact decide_eq_true (by omega) | exact decide_eq_false (by omega) | (simp; done) | (simp; omega) | (simp [Value.oneCell']; done) | exact i64s_one _ | exact AggOk.mk (by kernel_rfl) (by kernel_rfl)) ?_
          refine At.step [] rfl rfl rfl rfl rfl trivial (OpOk.makeSlice (sz := 3) (by_ := 24) (xs := List.replicate (c.length * 3) (.int .i64 0)) c.length rfl rfl rfl rfl rfl rfl (by omega) (by omega) (by omega) (by simp) (fun j hj => rep_get (n := 3) (by omega) hj) (by decide) (fun g => ?_))
          refine At.run 100 true [] [] rfl (by (repeat' apply And.intro) <;> first | exact True.intro | omega | (simp only [inK]; omega) | (simp; done) | (simp; omega) | exact decide_eq_true (by omega) | exact decide_eq_false (by omega) | rfl | (simp [Value.oneCell']; done) | exact i64s_one _ | exact AggOk.mk (by kernel_rfl) (by kernel_rfl)) ?_
          refine At.keep [true, true] [true, true] rfl ?_
          exact At.weak (hz ⟨(g, c.length, List.replicate (c.length * 3) (.int .i64 0)), by simp, hcln, fun _ => ⟨rfl, by rw [hcs0]; exact (rowsT_zero _ _).symm⟩⟩) ⟨rfl, rfl, rfl, rfl, rfl, rfl, rfl, rfl, rfl, trivial⟩
        · obtain ⟨g, rfl⟩ := hI.has (by omega)
          refine At.run 100 true [false] [hB 1, hB 1, hB 1] rfl (by (repeat' apply And.intro) <;> first | exact hk2 | exact True.intro | omega | rfl | (simp only [inK]; omega) | exact decide_eq_true (by omega) | exact decide_eq_false (by omega) | (simp; done) | (simp; omega) | (simp [Value.oneCell']; done) | exact i64s_one _ | exact AggOk.mk (by kernel_rfl) (by kernel_rfl)) ?_
          refine At.perm (List.Perm.refl _) (List.Perm.swap _ _ _) ?_
          exact At.weak (hz ⟨(g, m, xs), hI.len, hI.le, fun h => ⟨by rw [if_neg hi0]; exact (hxs (by omega) h).1, (hxs (by omega) h).2⟩⟩) ⟨rfl, rfl, rfl, rfl, rfl, rfl, rfl, rfl, rfl, trivial⟩
    · refine At.run 100 true [true] [hB 0, hB 1] rfl (by (repeat' apply And.intro) <;> first | exact True.intro | omega | (simp only [inK]; omega) | (simp; done) | (simp; omega) | exact decide_eq_true (by omega) | exact decide_eq_false (by omega) | rfl | (simp [Value.oneCell']; done) | exact i64s_one _ | exact AggOk.mk (by kernel_rfl) (by kernel_rfl)) ?_
      refine At.keep [false, true] [] rfl ?_
      refine At.nilRow 51 3 ?_
      exact At.ret [] rfl Tryz.func31 rfl trivial ⟨none, 0, [], s', e', u', rfl, rfl, rfl, hI.stop he⟩
  · have : i = 3 := by omega
    subst this
    refine At.run 100 true [false] [] rfl (by (repeat' apply And.intro) <;> first | exact True.intro | omega | (simp only [inK]; omega) | (simp; done) | (simp; omega) | exact decide_eq_true (by omega) | exact decide_eq_false (by omega) | rfl | (simp [Value.oneCell']; done) | exact i64s_one _ | exact AggOk.mk (by kernel_rfl) (by kernel_rfl)) ?_
    exact At.ret [] rfl Tryz.func31 rfl trivial ⟨a, m, xs, s', e', u', rfl, rfl, rfl, hI.fin (by decide)⟩

end Go.Proofs

/-
  Walks of layer 13: books got.
-/
namespace Go.Proofs
open Go Go.Eng
set_option maxRecDepth 100000
set_option maxHeartbeats 4000000
attribute [local irreducible] Tri

theorem Tryz.opens2_w : SetOk Tryz.prog 56 6 0 68 := by
  intro g n cap off v xs w hl hown
  refine Tri.enter Tryz.func68 rfl (by kernel_rfl) rfl hown ?_
  refine At.run 100 true [] [] rfl trivial ?_
  refine At.step0 [] rfl rfl rfl rfl trivial (OpOk.storeRow 0 rfl rfl rfl rfl (by simp [Value.oneCell']) (by simp [Value.oneCell']) rfl (by simp only [List.length_cons, List.length_nil]; omega) ?_)
  refine At.run 100 true [] [] rfl trivial ?_
  exact At.ret [] rfl Tryz.func68 rfl trivial ⟨rfl, rfl, rfl⟩

theorem Tryz.opens4_w : SetOk Tryz.prog 56 6 1 70 := by
  intro g n cap off v xs w hl hown
  refine Tri.enter Tryz.func70 rfl (by kernel_rfl) rfl hown ?_
  refine At.run 100 true [] [] rfl trivial ?_
  refine At.step0 [] rfl rfl rfl rfl trivial (OpOk.storeRow 0 rfl rfl rfl rfl (by simp [Value.oneCell']) (by simp [Value.oneCell']) rfl (by simp only [List.length_cons, List.length_nil]; omega) ?_)
  refine At.run 100 true [] [] rfl trivial ?_
  exact At.ret [] rfl Tryz.func70 rfl trivial ⟨rfl, rfl, rfl⟩

theorem Tryz.opens6_w : SetOk Tryz.prog 56 6 2 72 := by
  intro g n cap off v xs w hl hown
  refine Tri.enter Tryz.func72 rfl (by kernel_rfl) rfl hown ?_
  refine At.run 100 true [] [] rfl trivial ?_
  refine At.step0 [] rfl rfl rfl rfl trivial (OpOk.storeRow 0 rfl rfl rfl rfl (by simp [Value.oneCell']) (by simp [Value.oneCell']) rfl (by simp only [List.length_cons, List.length_nil]; omega) ?_)
  refine At.run 100 true [] [] rfl trivial ?_
  exact At.ret [] rfl Tryz.func72 rfl trivial ⟨rfl, rfl, rfl⟩

theorem Tryz.opens8_w : SetOk Tryz.prog 56 6 3 74 := by
  intro g n cap off v xs w hl hown
  refine Tri.enter Tryz.func74 rfl (by kernel_rfl) rfl hown ?_
  refine At.run 100 true [] [] rfl trivial ?_
  refine At.step0 [] rfl rfl rfl rfl trivial (OpOk.storeRow 0 rfl rfl rfl rfl (by simp [Value.oneCell']) (by simp [Value.oneCell']) rfl (by simp only [List.length_cons, List.length_nil]; omega) ?_)
  refine At.run 100 true [] [] rfl trivial ?_
  exact At.ret [] rfl Tryz.func74 rfl trivial ⟨rfl, rfl, rfl⟩

theorem Tryz.opens10_w : SetOk Tryz.prog 56 6 4 76 := by
  intro g n cap off v xs w hl hown
  refine Tri.enter Tryz.func76 rfl (by kernel_rfl) rfl hown ?_
  refine At.run 100 true [] [] rfl trivial ?_
  refine At.step0 [] rfl rfl rfl rfl trivial (OpOk.storeRow 0 rfl rfl rfl rfl (by simp [Value.oneCell']) (by simp [Value.oneCell']) rfl (by simp only [List.length_cons, List.length_nil]; omega) ?_)
  refine At.run 100 true [] [] rfl trivial ?_
  exact At.ret [] rfl Tryz.func76 rfl trivial ⟨rfl, rfl, rfl⟩

theorem Tryz.opens12_w : SetOk Tryz.prog 56 6 5 78 := by
  intro g n cap off v xs w hl hown
  refine Tri.enter Tryz.func78 rfl (by kernel_rfl) rfl hown ?_
  refine At.run 100 true [] [] rfl trivial ?_
  refine At.step0 [] rfl rfl rfl rfl trivial (OpOk.storeRow 0 rfl rfl rfl rfl (by simp [Value.oneCell']) (by simp [Value.oneCell']) rfl (by simp only [List.length_cons, List.length_nil]; omega) ?_)
  refine At.run 100 true [] [] rfl trivial ?_
  exact At.ret [] rfl Tryz.func78 rfl trivial ⟨rfl, rfl, rfl⟩

theorem Tryz.opensL_set (i : Nat) (hi : i < 6) : ∃ F G, Tryz.opensL[i * 2]? = some (.func (.func F) ⟨[]⟩ ⟨[]⟩) ∧ Tryz.opensL[i * 2 + 1]? = some (.func (.func G) ⟨[]⟩ ⟨[]⟩) ∧ SetOk Tryz.prog 56 6 i G := by
  match i, hi with
  | 0, _ => exact ⟨_, _, rfl, rfl, Tryz.opens2_w⟩
  | 1, _ => exact ⟨_, _, rfl, rfl, Tryz.opens4_w⟩
  | 2, _ => exact ⟨_, _, rfl, rfl, Tryz.opens6_w⟩
  | 3, _ => exact ⟨_, _, rfl, rfl, Tryz.opens8_w⟩
  | 4, _ => exact ⟨_, _, rfl, rfl, Tryz.opens10_w⟩
  | 5, _ => exact ⟨_, _, rfl, rfl, Tryz.opens12_w⟩

theorem Tryz.snapGetOpen_w (s : List UInt8) (e : Int) (u : Bool) (most gr gf : Nat) (w : World) (hm : most ≤ 65536) (hs : s.length ≤ 9223372036854775807)
    (hf : w.heap[gf]? = some (.cells Tryz.opensL.toArray 114 (0, 0))) (hown : Own [(gr, 72, [str s, .int .i64 e, .bool u])] [] w) (hne : gf ∉ kys [(gr, 72, [str s, .int .i64 e, .bool u])] []) :
    Tri Tryz.prog 32 [.pointer (some ⟨gr, 0, none⟩), .int .i64 most, sv (some gf) 6 6] w (kys [(gr, 72, [str s, .int .i64 e, .bool u])] [])
      (fun v bx hp => ∃ a m xs s' e' u', v = sv a m m ∧ bx = [(gr, 72, [str s', .int .i64 e', .bool u'])] ∧ hp = [Seg.row a 56 6 m m xs] ∧ GetR most 6 s e u m xs s' e' u') := by
  refine Tri.enter Tryz.func32 rfl (by kernel_rfl) rfl hown ?_
  refine At.run 100 true [] [] rfl trivial ?_
  refine At.nilRow 56 6 ?_
  refine At.loop (n := 6) (env0 := [(0, .pointer (some ⟨gr, 0, none⟩)), (1, .int .i64 most), (7, sv none 0 0), (14, .slice (some ⟨gf, 0, none⟩) 6 6), (15, .int .i64 6), (16, .int .i64 0)]) (fun mm env bx hp => ∃ (i m : Nat) (a : Option Nat) (xs : List Value) (s' : List UInt8) (e' : Int) (u' : Bool), mm = 6 - i ∧ i ≤ 6 ∧
    env = [(0, .pointer (some ⟨gr, 0, none⟩)), (1, .int .i64 most), (7, sv a m m), (14, .slice (some ⟨gf, 0, none⟩) 6 6), (15, .int .i64 6), (16, .int .i64 i)] ∧ bx = [(gr, 72, [str s', .int .i64 e', .bool u'])] ∧ hp = [Seg.row a 56 6 m m xs] ∧ GetI most 6 s e u i a m xs s' e' u') rfl
    ⟨0, 0, none, [], s, e, u, rfl, by omega, rfl, rfl, rfl, GetI.zero _ _ _ _ _⟩ ⟨rfl, rfl, rfl, rfl, rfl, rfl, trivial⟩ ?_
  rintro mm env bx hp ⟨i, m, a, xs, s', e', u', rfl, hi, rfl, rfl, rfl, hI⟩ ih
  by_cases hlt : i < 6
  · obtain ⟨F, G, hF, hG, hset⟩ := Tryz.opensL_set i hlt
    have hld : ∀ {bx : Bx} {hp : List Seg}, RdW ⟨w, kys [(gr, 72, [str s, .int .i64 e, .bool u])] []⟩ bx hp gf (0 + (i : Int).toNat * 2) [.func (.func F) ⟨[]⟩ ⟨[]⟩, .func (.func G) ⟨[]⟩ ⟨[]⟩] := fun {_ _} => RdW.blkB hne hf (fun j u hu => by
      match j, hu with
      | 0, hu => simp at hu; subst hu; rw [show 0 + (i : Int).toNat * 2 + 0 = i * 2 by omega]; exact hF
      | 1, hu => simp at hu; subst hu; rw [show 0 + (i : Int).toNat * 2 + 1 = i * 2 + 1 by omega]; exact hG)
    refine At.run 100 true [true] [hR [.func (.func F) ⟨[]⟩ ⟨[]⟩, .func (.func G) ⟨[]⟩ ⟨[]⟩]] rfl (by (repeat' apply And.intro) <;> first | exact hld | exact True.intro | omega | rfl | (simp only [inK]; omega) | exact decide_eq_true (by omega) | exact decide_eq_false (by omega) | (simp; done) | (simp; omega) | (simp [Value.oneCell']; done) | exact i64s_one _ | exact AggOk.mk (by kernel_rfl) (by kernel_rfl)) ?_
    refine At.step [] rfl rfl rfl rfl rfl trivial (OpOk.alloc (cs := [.nilFunc, .nilFunc]) rfl (by kernel_rfl) fun b9 hb9 => ?_)
    by_cases he : e' = 0
    · subst he
      obtain ⟨rfl, cs, hcs, hcl, -, hxs⟩ := hI.ok rfl
      refine At.run 100 true [false] [hB 0, hB 1, hB 1] rfl (by (repeat' apply And.intro) <;> first | exact True.intro | omega | (simp only [inK]; omega) | (simp; done) | (simp; omega) | exact decide_eq_true (by omega) | exact decide_eq_false (by omega) | rfl | (simp [Value.oneCell']; done) | exact i64s_one _ | exact AggOk.mk (by kernel_rfl) (by kernel_rfl)) ?_
      have hcg := fun w' => Tryz.ColGet_w ⟨s'.toArray⟩ most w' hm (by rw [bl_str]; have := hI.slen; omega)
      simp only [bl_str] at hcg
      have hca := colG_a s' most
      have hcln := colG_len s' most
      obtain ⟨c, k, ee, hGc⟩ : ∃ c k ee, colG s' most = (c, k, ee) := ⟨_, _, _, rfl⟩
      rw [hGc] at hcg hca hcln
      simp only at hcg hca hcln
      refine At.step [] rfl rfl rfl rfl rfl trivial (OpOk.call rfl (fun w' _ => hcg w') ?_)
      rintro v bx' hp' ⟨cg, cc, rfl, rfl, rfl⟩
      have hsl := hI.slen
      have hk2 : (k : Int) ≤ ((bl ⟨s'.toArray⟩).length : Int) := by rw [bl_str]; omega
      refine At.cutAll (ι := {q : Nat × Nat × List Value // GetC most 6 i q.2.1 cs c q.2.2}) ⟨0, [1, 0, 1, 1, 1, 1, 1, 0, 0, 1, 1, 0, 0, 1, 0, 1, 1], []⟩ (fun q => [(0, .pointer (some ⟨gr, 0, none⟩)), (1, .int .i64 most), (7, sv (some q.1.1) q.1.2.1 q.1.2.1), (9, .pointer (some ⟨b9, 0, none⟩)), (10, sv cg c.length cc), (14, .slice (some ⟨gf, 0, none⟩) 6 6), (15, .int .i64 6), (16, .int .i64 i), (58, .bool (!decide ((c.length : Int) = q.1.2.1)))]) (fun _ => [(b9, 114, [.func (.func F) ⟨[]⟩ ⟨[]⟩, .func (.func G) ⟨[]⟩ ⟨[]⟩]), (gr, 72, [str (s'.drop k), .int .i64 ee, .bool u'])]) (fun q => [Seg.row (some q.1.1) 56 6 q.1.2.1 q.1.2.1 q.1.2.2, Seg.row cg 2 1 c.length cc (i64s c)]) ?_ (fun hz => ?_)
      · rintro ⟨⟨g, m', ys⟩, hC⟩
        replace hC : GetC most 6 i m' cs c ys := hC
        have hC1 : ys.length = m' * 6 := hC.1
        have hC2 : m' ≤ most := hC.2.1
        by_cases hlen : c.length = m'
        · refine At.run 100 true [false] [] rfl (by (repeat' apply And.intro) <;> first | exact True.intro | omega | (simp only [inK]; omega) | (simp; done) | (simp; omega) | exact decide_eq_true (by omega) | exact decide_eq_false (by omega) | rfl | (simp [Value.oneCell']; done) | exact i64s_one _ | exact AggOk.mk (by kernel_rfl) (by kernel_rfl)) ?_
          refine At.loop (n := c.length) (env0 := [(0, .pointer (some ⟨gr, 0, none⟩)), (1, .int .i64 most), (7, sv (some g) m' m'), (9, .pointer (some ⟨b9, 0, none⟩)), (10, sv cg c.length cc), (14, .slice (some ⟨gf, 0, none⟩) 6 6), (15, .int .i64 6), (16, .int .i64 i), (63, .int .i64 c.length), (64, .int .i64 0)]) (fun mm env bx hp => ∃ (j : Nat) (zs : List Value), mm = c.length - j ∧ j ≤ c.length ∧
            env = [(0, .pointer (some ⟨gr, 0, none⟩)), (1, .int .i64 most), (7, sv (some g) m' m'), (9, .pointer (some ⟨b9, 0, none⟩)), (10, sv cg c.length cc), (14, .slice (some ⟨gf, 0, none⟩) 6 6), (15, .int .i64 6), (16, .int .i64 i), (63, .int .i64 c.length), (64, .int .i64 j)] ∧ bx = [(b9, 114, [.func (.func F) ⟨[]⟩ ⟨[]⟩, .func (.func G) ⟨[]⟩ ⟨[]⟩]), (gr, 72, [str (s'.drop k), .int .i64 ee, .bool u'])] ∧ hp = [Seg.row (some g) 56 6 m' m' zs, Seg.row cg 2 1 c.length cc (i64s c)] ∧ zs.length = m' * 6 ∧ (evenB cs = true → zs = (rowsT 6 m' (cs ++ [c.take j])).flatMap i64s)) rfl
            ⟨0, ys, rfl, by omega, rfl, rfl, rfl, hC1, fun h => by rw [List.take_zero, rowsT_nil_snoc]; exact (hC.2.2 h).2⟩ ⟨rfl, rfl, rfl, rfl, rfl, rfl, rfl, rfl, rfl, rfl, trivial⟩ ?_
          rintro mm env bx hp ⟨j, zs, rfl, hj, rfl, rfl, rfl, hzl, hzs⟩ ih2
          by_cases hjl : j < c.length
          · obtain ⟨x, hx⟩ : ∃ x, c[j]? = some x := ⟨_, List.getElem?_eq_getElem hjl⟩
            refine At.rowSome 1 rfl (by omega) (fun g2 hg2 => ?_)
            subst hg2
            have hst := rowsT_set (sz := 6) (n := m') (cs := cs) (c := c) (j := j) (x := x) (by omega) (by omega) hx
            refine At.run 100 true [true] [] rfl (by (repeat' apply And.intro) <;> first | exact True.intro | omega | (simp only [inK]; omega) | (simp; done) | (simp; omega) | exact decide_eq_true (by omega) | exact decide_eq_false (by omega) | rfl | (simp [Value.oneCell']; done) | exact i64s_one _ | exact AggOk.mk (by kernel_rfl) (by kernel_rfl)) ?_
            have r1 : RdW ⟨w, kys [(gr, 72, [str s, .int .i64 0, .bool u])] []⟩ [(b9, 114, [.func (.func F) ⟨[]⟩ ⟨[]⟩, .func (.func G) ⟨[]⟩ ⟨[]⟩]), (gr, 72, [str (s'.drop k), .int .i64 ee, .bool u'])] [Seg.row (some g) 56 6 m' m' zs, Seg.row (some g2) 2 1 c.length cc (i64s c)] g2 (0 + (j : Int).toNat * 1) [.int .i64 x] := RdW.row (j := 1) rfl (fun i' u' hu => by
              match i', hu with
              | 0, hu => simp at hu; subst hu; rw [show 0 + (j : Int).toNat * 1 + 0 = j by omega]; exact i64s_get hx)
            refine At.quietT 9 1 true [] [hB 0, hR [.int .i64 x]] ⟨by kernel_rfl, by kernel_rfl, rfl, by kernel_rfl, by kernel_rfl, by kernel_rfl, rfl, rfl, rfl⟩ rfl rfl rfl (by (repeat' apply And.intro) <;> first | exact r1 | exact True.intro | omega | rfl | (simp only [inK]; omega) | exact decide_eq_true (by omega) | exact decide_eq_false (by omega) | (simp; done) | (simp; omega) | (simp [Value.oneCell']; done) | exact i64s_one _ | exact AggOk.mk (by kernel_rfl) (by kernel_rfl)) rfl ?_
            refine AtD.fork1 9 (by kernel_rfl) (StepD.by [] rfl rfl rfl rfl trivial (OpOk.callO [] [true] rfl rfl (fun w' hw' hown => hset g m' m' (0 + (j : Int).toNat * 6) x zs w' (by rw [hzl]; omega) hown) ?_))
            rintro v bx' hp' ⟨rfl, rfl, rfl⟩
            refine AtD.done (by kernel_rfl) ?_
            refine At.run 100 true [] [] rfl (by (repeat' apply And.intro) <;> first | exact True.intro | omega | (simp only [inK]; omega) | (simp; done) | (simp; omega) | exact decide_eq_true (by omega) | exact decide_eq_false (by omega) | rfl | (simp [Value.oneCell']; done) | exact i64s_one _ | exact AggOk.mk (by kernel_rfl) (by kernel_rfl)) ?_
            refine At.weak (ih2 (c.length - (j + 1)) _ _ _ (by omega) ⟨j + 1, _, rfl, by omega, rfl, rfl, rfl, by rw [putL_one_len]; exact hzl, fun h => ?_⟩) ⟨rfl, rfl, rfl, rfl, rfl, rfl, rfl, rfl, rfl, some_int_eq (by omega), trivial⟩
            rw [← hst, ← hzs h, hcl, show 0 + (j : Int).toNat * 6 + i = j * 6 + i by omega]
          · have : j = c.length := by omega
            subst this
            rw [List.take_length] at hzs
            refine At.run 100 true [false] [] rfl (by (repeat' apply And.intro) <;> first | exact True.intro | omega | (simp only [inK]; omega) | (simp; done) | (simp; omega) | exact decide_eq_true (by omega) | exact decide_eq_false (by omega) | rfl | (simp [Value.oneCell']; done) | exact i64s_one _ | exact AggOk.mk (by kernel_rfl) (by kernel_rfl)) ?_
            refine At.keep [false, true] [true] rfl ?_
            exact At.weak (ih (6 - (i + 1)) _ _ _ (by omega) ⟨i + 1, m', some g, zs, s'.drop k, ee, u', rfl, by omega, rfl, rfl, rfl, hI.even hlt hcs hGc hC hlen hzl hzs g⟩) ⟨rfl, rfl, rfl, rfl, rfl, some_int_eq (by omega), trivial⟩
        · refine At.run 100 true [true] [hB 1] rfl (by (repeat' apply And.intro) <;> first | exact True.intro | omega | (simp only [inK]; omega) | (simp; done) | (simp; omega) | exact decide_eq_true (by omega) | exact decide_eq_false (by omega) | rfl | (simp [Value.oneCell']; done) | exact i64s_one _ | exact AggOk.mk (by kernel_rfl) (by kernel_rfl)) ?_
          refine At.keep [false, true] [true] rfl ?_
          exact At.weak (ih (6 - (i + 1)) _ _ _ (by omega) ⟨i + 1, m', some g, ys, s'.drop k, ee, true, rfl, by omega, rfl, rfl, rfl, hI.odd hlt hcs hGc hC hlen g⟩) ⟨rfl, rfl, rfl, rfl, rfl, some_int_eq (by omega), trivial⟩
      · by_cases hi0 : i = 0
        · subst hi0
          have hcs0 : cs = [] := List.length_eq_zero_iff.1 hcl
          refine At.run 100 true [true] [hB 1, hB 1, hB 1] rfl (by (repeat' apply And.intro) <;> first | exact hk2 | exact True.intro | omega | rfl | (simp only [inK]; omega) | exact decide_eq_true (by omega) | exact decide_eq_false (by omega) | (simp; done) | (simp; omega) | (simp [Value.oneCell']; done) | exact i64s_one _ | exact AggOk.mk (by kernel_rfl) (by kernel_rfl)) ?_
          refine At.step [] rfl rfl rfl rfl rfl trivial (OpOk.makeSlice (sz := 6) (by_ := 48) (xs := List.replicate (c.length * 6) (.int .i64 0)) c.length rfl rfl rfl rfl rfl rfl (by omega) (by omega) (by omega) (by simp) (fun j hj => rep_get (n := 6) (by omega) hj) (by decide) (fun g => ?_))
          refine At.run 100 true [] [] rfl (by (repeat' apply And.intro) <;> first | exact True.intro | omega | (simp only [inK]; omega) | (simp; done) | (simp; omega) | exact decide_eq_true (by omega) | exact decide_eq_false (by omega) | rfl | (simp [Value.oneCell']; done) | exact i64s_one _ | exact AggOk.mk (by kernel_rfl) (by kernel_rfl)) ?_
          refine At.keep [true, true] [true, true] rfl ?_
          exact At.weak (hz ⟨(g, c.length, List.replicate (c.length * 6) (.int .i64 0)), by simp, hcln, fun _ => ⟨rfl, by rw [hcs0]; exact (rowsT_zero _ _).symm⟩⟩) ⟨rfl, rfl, rfl, rfl, rfl, rfl, rfl, rfl, rfl, trivial⟩
        · obtain ⟨g, rfl⟩ := hI.has (by omega)
          refine At.run 100 true [false] [hB 1, hB 1, hB 1] rfl (by (repeat' apply And.intro) <;> first | exact hk2 | exact True.intro | omega | rfl | (simp only [inK]; omega) | exact decide_eq_true (by omega) | exact decide_eq_false (by omega) | (simp; done) | (simp; omega) | (simp [Value.oneCell']; done) | exact i64s_one _ | exact AggOk.mk (by kernel_rfl) (by kernel_rfl)) ?_
          refine At.perm (List.Perm.refl _) (List.Perm.swap _ _ _) ?_
          exact At.weak (hz ⟨(g, m, xs), hI.len, hI.le, fun h => ⟨by rw [if_neg hi0]; exact (hxs (by omega) h).1, (hxs (by omega) h).2⟩⟩) ⟨rfl, rfl, rfl, rfl, rfl, rfl, rfl, rfl, rfl, trivial⟩
    · refine At.run 100 true [true] [hB 0, hB 1] rfl (by (repeat' apply And.intro) <;> first | exact True.intro | omega | (simp only [inK]; omega) | (simp; done) | (simp; omega) | exact decide_eq_true (by omega) | exact decide_eq_false (by omega) | rfl | (simp [Value.oneCell']; done) | exact i64s_one _ | exact AggOk.mk (by kernel_rfl) (by kernel_rfl)) ?_
      refine At.keep [false, true] [] rfl ?_
      refine At.nilRow 56 6 ?_
      exact At.ret [] rfl Tryz.func32 rfl trivial ⟨none, 0, [], s', e', u', rfl, rfl, rfl, hI.stop he⟩
  · have : i = 6 := by omega
    subst this
    refine At.run 100 true [false] [] rfl (by (repeat' apply And.intro) <;> first | exact True.intro | omega | (simp only [inK]; omega) | (simp; done) | (simp; omega) | exact decide_eq_true (by omega) | exact decide_eq_false (by omega) | rfl | (simp [Value.oneCell']; done) | exact i64s_one _ | exact AggOk.mk (by kernel_rfl) (by kernel_rfl)) ?_
    exact At.ret [] rfl Tryz.func32 rfl trivial ⟨a, m, xs, s', e', u', rfl, rfl, rfl, hI.fin (by decide)⟩

end Go.Proofs

/-
  Walks of layer 13: books got.
-/
namespace Go.Proofs
open Go Go.Eng
set_option maxRecDepth 100000
set_option maxHeartbeats 4000000
attribute [local irreducible] Tri

theorem Tryz.rates2_w : SetOk Tryz.prog 61 2 0 80 := by
  intro g n cap off v xs w hl hown
  refine Tri.enter Tryz.func80 rfl (by kernel_rfl) rfl hown ?_
  refine At.run 100 true [] [] rfl trivial ?_
  refine At.step0 [] rfl rfl rfl rfl trivial (OpOk.storeRow 0 rfl rfl rfl rfl (by simp [Value.oneCell']) (by simp [Value.oneCell']) rfl (by simp only [List.length_cons, List.length_nil]; omega) ?_)
  refine At.run 100 true [] [] rfl trivial ?_
  exact At.ret [] rfl Tryz.func80 rfl trivial ⟨rfl, rfl, rfl⟩

theorem Tryz.rates4_w : SetOk Tryz.prog 61 2 1 82 := by
  intro g n cap off v xs w hl hown
  refine Tri.enter Tryz.func82 rfl (by kernel_rfl) rfl hown ?_
  refine At.run 100 true [] [] rfl trivial ?_
  refine At.step0 [] rfl rfl rfl rfl trivial (OpOk.storeRow 0 rfl rfl rfl rfl (by simp [Value.oneCell']) (by simp [Value.oneCell']) rfl (by simp only [List.length_cons, List.length_nil]; omega) ?_)
  refine At.run 100 true [] [] rfl trivial ?_
  exact At.ret [] rfl Tryz.func82 rfl trivial ⟨rfl, rfl, rfl⟩

theorem Tryz.ratesL_set (i : Nat) (hi : i < 2) : ∃ F G, Tryz.ratesL[i * 2]? = some (.func (.func F) ⟨[]⟩ ⟨[]⟩) ∧ Tryz.ratesL[i * 2 + 1]? = some (.func (.func G) ⟨[]⟩ ⟨[]⟩) ∧ SetOk Tryz.prog 61 2 i G := by
  match i, hi with
  | 0, _ => exact ⟨_, _, rfl, rfl, Tryz.rates2_w⟩
  | 1, _ => exact ⟨_, _, rfl, rfl, Tryz.rates4_w⟩

theorem Tryz.snapGetRate_w (s : List UInt8) (e : Int) (u : Bool) (most gr gf : Nat) (w : World) (hm : most ≤ 65536) (hs : s.length ≤ 9223372036854775807)
    (hf : w.heap[gf]? = some (.cells Tryz.ratesL.toArray 119 (0, 0))) (hown : Own [(gr, 72, [str s, .int .i64 e, .bool u])] [] w) (hne : gf ∉ kys [(gr, 72, [str s, .int .i64 e, .bool u])] []) :
    Tri Tryz.prog 33 [.pointer (some ⟨gr, 0, none⟩), .int .i64 most, sv (some gf) 2 2] w (kys [(gr, 72, [str s, .int .i64 e, .bool u])] [])
      (fun v bx hp => ∃ a m xs s' e' u', v = sv a m m ∧ bx = [(gr, 72, [str s', .int .i64 e', .bool u'])] ∧ hp = [Seg.row a 61 2 m m xs] ∧ GetR most 2 s e u m xs s' e' u') := by
  refine Tri.enter Tryz.func33 rfl (by kernel_rfl) rfl hown ?_
  refine At.run 100 true [] [] rfl trivial ?_
  refine At.nilRow 61 2 ?_
  refine At.loop (n := 2) (env0 := [(0, .pointer (some ⟨gr, 0, none⟩)), (1, .int .i64 most), (7, sv none 0 0), (14, .slice (some ⟨gf, 0, none⟩) 2 2), (15, .int .i64 2), (16, .int .i64 0)]) (fun mm env bx hp => ∃ (i m : Nat) (a : Option Nat) (xs : List Value) (s' : List UInt8) (e' : Int) (u' : Bool), mm = 2 - i ∧ i ≤ 2 ∧
    env = [(0, .pointer (some ⟨gr, 0, none⟩)), (1, .int .i64 most), (7, sv a m m), (14, .slice (some ⟨gf, 0, none⟩) 2 2), (15, .int .i64 2), (16, .int .i64 i)] ∧ bx = [(gr, 72, [str s', .int .i64 e', .bool u'])] ∧ hp = [Seg.row a 61 2 m m xs] ∧ GetI most 2 s e u i a m xs s' e' u') rfl
    ⟨0, 0, none, [], s, e, u, rfl, by omega, rfl, rfl, rfl, GetI.zero _ _ _ _ _⟩ ⟨rfl, rfl, rfl, rfl, rfl, rfl, trivial⟩ ?_
  rintro mm env bx hp ⟨i, m, a, xs, s', e', u', rfl, hi, rfl, rfl, rfl, hI⟩ ih
  by_cases hlt : i < 2
  · obtain ⟨F, G, hF, hG, hset⟩ := Tryz.ratesL_set i hlt
    have hld : ∀ {bx : Bx} {hp : List Seg}, RdW ⟨w, kys [(gr, 72, [str s, .int .i64 e, .bool u])] []⟩ bx hp gf (0 + (i : Int).toNat * 2) [.func (.func F) ⟨[]⟩ ⟨[]⟩, .func (.func G) ⟨[]⟩ ⟨[]⟩] := fun {_ _} => RdW.blkB hne hf (fun j u hu => by
      match j, hu with
      | 0, hu => simp at hu; subst hu; rw [show 0 + (i : Int).toNat * 2 + 0 = i * 2 by omega]; exact hF
      | 1, hu => simp at hu; subst hu; rw [show 0 + (i : Int).toNat * 2 + 1 = i * 2 + 1 by omega]; exact hG)
    refine At.run 100 true [true] [hR [.func (.func F) ⟨[]⟩ ⟨[]⟩, .func (.func G) ⟨[]⟩ ⟨[]⟩]] rfl (by (repeat' apply And.intro) <;> first | exact hld | exact True.intro | omega | rfl | (simp only [inK]; omega) | exact decide_eq_true (by omega) | exact decide_eq_false (by omega) | (simp; done) | (simp; omega) | (simp [Value.oneCell']; done) | exact i64s_one _ | exact AggOk.mk (by kernel_rfl) (by kernel_rfl)) ?_
    refine At.step [] rfl rfl rfl rfl rfl trivial (OpOk.alloc (cs := [.nilFunc, .nilFunc]) rfl (by kernel_rfl) fun b9 hb9 => ?_)
    by_cases he : e' = 0
    · subst he
      obtain ⟨rfl, cs, hcs, hcl, -, hxs⟩ := hI.ok rfl
      refine At.run 100 true [false] [hB 0, hB 1, hB 1] rfl (by (repeat' apply And.intro) <;> first | exact True.intro | omega | (simp only [inK]; omega) | (simp; done) | (simp; omega) | exact decide_eq_true (by omega) | exact decide_eq_false (by omega) | rfl | (simp [Value.oneCell']; done) | exact i64s_one _ | exact AggOk.mk (by kernel_rfl) (by kernel_rfl)) ?_
      have hcg := fun w' => Tryz.ColGet_w ⟨s'.toArray⟩ most w' hm (by rw [bl_str]; have := hI.slen; omega)
      simp only [bl_str] at hcg
      have hca := colG_a s' most
      have hcln := colG_len s' most
      obtain ⟨c, k, ee, hGc⟩ : ∃ c k ee, colG s' most = (c, k, ee) := ⟨_, _, _, rfl⟩
      rw [hGc] at hcg hca hcln
      simp only at hcg hca hcln
      refine At.step [] rfl rfl rfl rfl rfl trivial (OpOk.call rfl (fun w' _ => hcg w') ?_)
      rintro v bx' hp' ⟨cg, cc, rfl, rfl, rfl⟩
      have hsl := hI.slen
      have hk2 : (k : Int) ≤ ((bl ⟨s'.toArray⟩).length : Int) := by rw [bl_str]; omega
      refine At.cutAll (ι := {q : Nat × Nat × List Value // GetC most 2 i q.2.1 cs c q.2.2}) ⟨0, [1, 0, 1, 1, 1, 1, 1, 0, 0, 1, 1, 0, 0, 1, 0, 1, 1], []⟩ (fun q => [(0, .pointer (some ⟨gr, 0, none⟩)), (1, .int .i64 most), (7, sv (some q.1.1) q.1.2.1 q.1.2.1), (9, .pointer (some ⟨b9, 0, none⟩)), (10, sv cg c.length cc), (14, .slice (some ⟨gf, 0, none⟩) 2 2), (15, .int .i64 2), (16, .int .i64 i), (58, .bool (!decide ((c.length : Int) = q.1.2.1)))]) (fun _ => [(b9, 119, [.func (.func F) ⟨[]⟩ ⟨[]⟩, .func (.func G) ⟨[]⟩ ⟨[]⟩]), (gr, 72, [str (s'.drop k), .int .i64 ee, .bool u'])]) (fun q => [Seg.row (some q.1.1) 61 2 q.1.2.1 q.1.2.1 q.1.2.2, Seg.row cg 2 1 c.length cc (i64s c)]) ?_ (fun hz => ?_)
      · rintro ⟨⟨g, m', ys⟩, hC⟩
        replace hC : GetC most 2 i m' cs c ys := hC
        have hC1 : ys.length = m' * 2 := hC.1
        have hC2 : m' ≤ most := hC.2.1
        by_cases hlen : c.length = m'
        · refine At.run 100 true [false] [] rfl (by (repeat' apply And.intro) <;> first | exact True.intro | omega | (simp only [inK]; omega) | (simp; done) | (simp; omega) | exact decide_eq_true (by omega) | exact decide_eq_false (by omega) | rfl | (simp [Value.oneCell']; done) | exact i64s_one _ | exact AggOk.mk (by kernel_rfl) (by kernel_rfl)) ?_
          refine At.loop (n := c.length) (env0 := [(0, .pointer (some ⟨gr, 0, none⟩)), (1, .int .i64 most), (7, sv (some g) m' m'), (9, .pointer (some ⟨b9, 0, none⟩)), (10, sv cg c.length cc), (14, .slice (some ⟨gf, 0, none⟩) 2 2), (15, .int .i64 2), (16, .int .i64 i), (63, .int .i64 c.length), (64, .int .i64 0)]) (fun mm env bx hp => ∃ (j : Nat) (zs : List Value), mm = c.length - j ∧ j ≤ c.length ∧
            env = [(0, .pointer (some ⟨gr, 0, none⟩)), (1, .int .i64 most), (7, sv (some g) m' m'), (9, .pointer (some ⟨b9, 0, none⟩)), (10, sv cg c.length cc), (14, .slice (some ⟨gf, 0, none⟩) 2 2), (15, .int .i64 2), (16, .int .i64 i), (63, .int .i64 c.length), (64, .int .i64 j)] ∧ bx = [(b9, 119, [.func (.func F) ⟨[]⟩ ⟨[]⟩, .func (.func G) ⟨[]⟩ ⟨[]⟩]), (gr, 72, [str (s'.drop k), .int .i64 ee, .bool u'])] ∧ hp = [Seg.row (some g) 61 2 m' m' zs, Seg.row cg 2 1 c.length cc (i64s c)] ∧ zs.length = m' * 2 ∧ (evenB cs = true → zs = (rowsT 2 m' (cs ++ [c.take j])).flatMap i64s)) rfl
            ⟨0, ys, rfl, by omega, rfl, rfl, rfl, hC1, fun h => by rw [List.take_zero, rowsT_nil_snoc]; exact (hC.2.2 h).2⟩ ⟨rfl, rfl, rfl, rfl, rfl, rfl, rfl, rfl, rfl, rfl, trivial⟩ ?_
          rintro mm env bx hp ⟨j, zs, rfl, hj, rfl, rfl, rfl, hzl, hzs⟩ ih2
          by_cases hjl : j < c.length
          · obtain ⟨x, hx⟩ : ∃ x, c[j]? = some x := ⟨_, List.getElem?_eq_getElem hjl⟩
            refine At.rowSome 1 rfl (by omega) (fun g2 hg2 => ?_)
            subst hg2
            have hst := rowsT_set (sz := 2) (n := m') (cs := cs) (c := c) (j := j) (x := x) (by omega) (by omega) hx
            refine At.run 100 true [true] [] rfl (by (repeat' apply And.intro) <;> first | exact True.intro | omega | (simp only [inK]; omega) | (simp; done) | (simp; omega) | exact decide_eq_true (by omega) | exact decide_eq_false (by omega) | rfl | (simp [Value.oneCell']; done) | exact i64s_one _ | exact AggOk.mk (by kernel_rfl) (by kernel_rfl)) ?_
            have r1 : RdW ⟨w, kys [(gr, 72, [str s, .int .i64 0, .bool u])] []⟩ [(b9, 119, [.func (.func F) ⟨[]⟩ ⟨[]⟩, .func (.func G) ⟨[]⟩ ⟨[]⟩]), (gr, 72, [str (s'.drop k), .int .i64 ee, .bool u'])] [Seg.row (some g) 61 2 m' m' zs, Seg.row (some g2) 2 1 c.length cc (i64s c)] g2 (0 + (j : Int).toNat * 1) [.int .i64 x] := RdW.row (j := 1) rfl (fun i' u' hu => by
              match i', hu with
              | 0, hu => simp at hu; subst hu; rw [show 0 + (j : Int).toNat * 1 + 0 = j by omega]; exact i64s_get hx)
            refine At.quietT 9 1 true [] [hB 0, hR [.int .i64 x]] ⟨by kernel_rfl, by kernel_rfl, rfl, by kernel_rfl, by kernel_rfl, by kernel_rfl, rfl, rfl, rfl⟩ rfl rfl rfl (by (repeat' apply And.intro) <;> first | exact r1 | exact True.intro | omega | rfl | (simp only [inK]; omega) | exact decide_eq_true (by omega) | exact decide_eq_false (by omega) | (simp; done) | (simp; omega) | (simp [Value.oneCell']; done) | exact i64s_one _ | exact AggOk.mk (by kernel_rfl) (by kernel_rfl)) rfl ?_
            refine AtD.fork1 9 (by kernel_rfl) (StepD.by [] rfl rfl rfl rfl trivial (OpOk.callO [] [true] rfl rfl (fun w' hw' hown => hset g m' m' (0 + (j : Int).toNat * 2) x zs w' (by rw [hzl]; omega) hown) ?_))
            rintro v bx' hp' ⟨rfl, rfl, rfl⟩
            refine AtD.done (by kernel_rfl) ?_
            refine At.run 100 true [] [] rfl (by (repeat' apply And.intro) <;> first | exact True.intro | omega | (simp only [inK]; omega) | (simp; done) | (simp; omega) | exact decide_eq_true (by omega) | exact decide_eq_false (by omega) | rfl | (simp [Value.oneCell']; done) | exact i64s_one _ | exact AggOk.mk (by kernel_rfl) (by kernel_rfl)) ?_
            refine At.weak (ih2 (c.length - (j + 1)) _ _ _ (by omega) ⟨j + 1, _, rfl, by omega, rfl, rfl, rfl, by rw [putL_one_len]; exact hzl, fun h => ?_⟩) ⟨rfl, rfl, rfl, rfl, rfl, rfl, rfl, rfl, rfl, some_int_eq (by omega), trivial⟩
            rw [← hst, ← hzs h, hcl, show 0 + (j : Int).toNat * 2 + i = j * 2 + i by omega]
          · have : j = c.length := by omega
            subst this
            rw [List.take_length] at hzs
            refine At.run 100 true [false] [] rfl (by (repeat' apply And.intro) <;> first | exact True.intro | omega | (simp only [inK]; omega) | (simp; done) | (simp; omega) | exact decide_eq_true (by omega) | exact decide_eq_false (by omega) | rfl | (simp [Value.oneCell']; done) | exact i64s_one _ | exact AggOk.mk (by kernel_rfl) (by kernel_rfl)) ?_
            refine At.keep [false, true] [true] rfl ?_
            exact At.weak (ih (2 - (i + 1)) _ _ _ (by omega) ⟨i + 1, m', some g, zs, s'.drop k, ee, u', rfl, by omega, rfl, rfl, rfl, hI.even hlt hcs hGc hC hlen hzl hzs g⟩) ⟨rfl, rfl, rfl, rfl, rfl, some_int_eq (by omega), trivial⟩
        · refine At.run 100 true [true] [hB 1] rfl (by (repeat' apply And.intro) <;> first | exact True.intro | omega | (simp only [inK]; omega) | (simp; done) | (simp; omega) | exact decide_eq_true (by omega) | exact decide_eq_false (by omega) | rfl | (simp [Value.oneCell']; done) | exact i64s_one _ | exact AggOk.mk (by kernel_rfl) (by kernel_rfl)) ?_
          refine At.keep [false, true] [true] rfl ?_
          exact At.weak (ih (2 - (i + 1)) _ _ _ (by omega) ⟨i + 1, m', some g, ys, s'.drop k, ee, true, rfl, by omega, rfl, rfl, rfl, hI.odd hlt hcs hGc hC hlen g⟩) ⟨rfl, rfl, rfl, rfl, rfl, some_int_eq (by omega), trivial⟩
      · by_cases hi0 : i = 0
        · subst hi0
          have hcs0 : cs = [] := List.length_eq_zero_iff.1 hcl
          refine At.run 100 true [true] [hB 1, hB 1, hB 1] rfl (by (repeat' apply And.intro) <;> first | exact hk2 | exact True.intro | omega | rfl | (simp only [inK]; omega) | exact decide_eq_true (by omega) | exact decide_eq_false (by omega) | (simp; done) | (simp; omega) | (simp [Value.oneCell']; done) | exact i64s_one _ | exact AggOk.mk (by kernel_rfl) (by kernel_rfl)) ?_
          refine At.step [] rfl rfl rfl rfl rfl trivial (OpOk.makeSlice (sz := 2) (by_ := 16) (xs := List.replicate (c.length * 2) (.int .i64 0)) c.length rfl rfl rfl rfl rfl rfl (by omega) (by omega) (by omega) (by simp) (fun j hj => rep_get (n := 2) (by omega) hj) (by decide) (fun g => ?_))
          refine At.run 100 true [] [] rfl (by (repeat' apply And.intro) <;> first | exact True.intro | omega | (simp only [inK]; omega) | (simp; done) | (simp; omega) | exact decide_eq_true (by omega) | exact decide_eq_false (by omega) | rfl | (simp [Value.oneCell']; done) | exact i64s_one _ | exact AggOk.mk (by kernel_rfl) (by kernel_rfl)) ?_
          refine At.keep [true, true] [true, true] rfl ?_
          exact At.weak (hz ⟨(g, c.length, List.replicate (c.length * 2) (.int .i64 0)), by simp, hcln, fun _ => ⟨rfl, by rw [hcs0]; exact (rowsT_zero _ _).symm⟩⟩) ⟨rfl, rfl, rfl, rfl, rfl, rfl, rfl, rfl, rfl, trivial⟩
        · obtain ⟨g, rfl⟩ := hI.has (by omega)
          refine At.run 100 true [false] [hB 1, hB 1, hB 1] rfl (by (repeat' apply And.intro) <;> first | exact hk2 | exact True.intro | omega | rfl | (simp only [inK]; omega) | exact decide_eq_true (by omega) | exact decide_eq_false (by omega) | (simp; done) | (simp; omega) | (simp [Value.oneCell']; done) | exact i64s_one _ | exact AggOk.mk (by kernel_rfl) (by kernel_rfl)) ?_
          refine At.perm (List.Perm.refl _) (List.Perm.swap _ _ _) ?_
          exact At.weak (hz ⟨(g, m, xs), hI.len, hI.le, fun h => ⟨by rw [if_neg hi0]; exact (hxs (by omega) h).1, (hxs (by omega) h).2⟩⟩) ⟨rfl, rfl, rfl, rfl, rfl, rfl, rfl, rfl, rfl, trivial⟩
    · refine At.run 100 true [true] [hB 0, hB 1] rfl (by (repeat' apply And.intro) <;> first | exact True.intro | omega | (simp only [inK]; omega) | (simp; done) | (simp; omega) | exact decide_eq_true (by omega) | exact decide_eq_false (by omega) | rfl | (simp [Value.oneCell']; done) | exact i64s_one _ | exact AggOk.mk (by kernel_rfl) (by kernel_rfl)) ?_
      refine At.keep [false, true] [] rfl ?_
      refine At.nilRow 61 2 ?_
      exact At.ret [] rfl Tryz.func33 rfl trivial ⟨none, 0, [], s', e', u', rfl, rfl, rfl, hI.stop he⟩
  · have : i = 2 := by omega
    subst this
    refine At.run 100 true [false] [] rfl (by (repeat' apply And.intro) <;> first | exact True.intro | omega | (simp only [inK]; omega) | (simp; done) | (simp; omega) | exact decide_eq_true (by omega) | exact decide_eq_false (by omega) | rfl | (simp [Value.oneCell']; done) | exact i64s_one _ | exact AggOk.mk (by kernel_rfl) (by kernel_rfl)) ?_
    exact At.ret [] rfl Tryz.func33 rfl trivial ⟨a, m, xs, s', e', u', rfl, rfl, rfl, hI.fin (by decide)⟩

end Go.Proofs

/-
  Walks of layer 13: books got.
-/
namespace Go.Proofs
open Go Go.Eng
set_option maxRecDepth 100000
set_option maxHeartbeats 4000000
attribute [local irreducible] Tri

theorem notKeyB {S : Base} {g t : Nat} {cs : List Value} {bx : Bx} {e : Nat × TypeId × List Value} {hp : List Seg} {w : World} (h : WOk S ((g, t, cs) :: e :: bx) hp w) : g ∉ kys [e] [] := by
  intro hk
  have hnd := h.nd
  simp only [kys, List.map_cons, List.cons_append, List.nodup_cons] at hnd
  apply hnd.1
  simp only [kys, List.map_cons, List.map_nil, List.flatMap_nil, List.append_nil, List.mem_singleton] at hk
  simp [hk]

/-- Where a new book's lists lie. -/
structure BkG where
  g1 : Option Nat
  g2 : Option Nat
  g3 : Option Nat
  g4 : Option Nat
  c1 : Nat
  c2 : Nat
  c3 : Nat
  c4 : Nat
def BkG.A (G : BkG) : BkA := ⟨svA G.g1, svA G.g2, svA G.g3, svA G.g4, G.c1, G.c2, G.c3, G.c4⟩
def Tryz.bkRows (b : Bk) (G : BkG) : List Seg := [Seg.row G.g4 61 2 b.R.length G.c4 (b.R.flatMap i64s), Seg.row G.g3 56 6 b.O.length G.c3 (b.O.flatMap i64s), Seg.row G.g2 51 3 b.S.length G.c2 (b.S.flatMap i64s), Seg.row G.g1 46 4 b.H.length G.c1 (b.H.flatMap i64s)]
theorem Tryz.bkRows_ok {S : Base} {bx : Bx} {hp : List Seg} {w : World} {b : Bk} {G : BkG} (hw : WOk S bx hp w) (h : ∀ s, s ∈ Tryz.bkRows b G → s ∈ hp) : BkOk w b G.A :=
  have m (i : Nat) {s : Seg} (hs : (Tryz.bkRows b G)[i]? = some s) : s ∈ hp := h s (List.mem_of_getElem? hs)
  ⟨SlOk.row (hw.hp _ (m 3 rfl)), SlOk.row (hw.hp _ (m 2 rfl)), SlOk.row (hw.hp _ (m 1 rfl)), SlOk.row (hw.hp _ (m 0 rfl))⟩

theorem Tryz.snapGet_w (s : List UInt8) (w : World) (hs : s.length ≤ 9223372036854775807) :
    Tri Tryz.prog 10 [str s] w [] (fun v bx hp => ∃ G : BkG, v = .tuple #[.agg ⟨bkV (getBk s).1 G.A⟩, .int .i64 (getBk s).2] ∧ bx = [] ∧ hp = Tryz.bkRows (getBk s).1 G) := by
  refine Tri.enter (bx := []) (hp := []) Tryz.func10 rfl (by kernel_rfl) rfl (Own.nil w) ?_
  refine At.run 100 true [] [] rfl trivial ?_
  refine At.step [] rfl rfl rfl rfl rfl trivial (OpOk.alloc (cs := [sv none 0 0, sv none 0 0, sv none 0 0, sv none 0 0, .int .i64 0]) rfl (by kernel_rfl) fun b2 hb2 => ?_)
  refine At.run 100 true [] [] rfl trivial ?_
  refine At.step [] rfl rfl rfl rfl rfl trivial (OpOk.call rfl (fun w' hw' => Tryz.Read_w ⟨s.toArray⟩ w') ?_)
  rintro v bx' hp' ⟨b, rfl, rfl, rfl⟩
  have hN0 := rdN_lt s 0 0 1099511627776
  have hA0 := rdN_a (l := s) (a := 0) (f := 0) (most := 1099511627776) (by omega)
  have hNum : ∀ {w' : World} {bx : Bx}, WOk ⟨w, kys [] []⟩ ((b, 122, rdr ⟨s.toArray⟩ 0 0) :: bx) [] w' → _ := fun {w'} {bx} hw' => Tryz.Num_w ⟨s.toArray⟩ 0 0 b 1099511627776 w' (by omega) (by rw [bl_str]; exact hs) (Own.head hw'.toOwn)
  simp only [bl_str] at hNum
  obtain ⟨n, a, e0, hN⟩ : ∃ n a f, rdN s 0 0 1099511627776 = (n, a, f) := ⟨_, _, _, rfl⟩
  rw [hN] at hN0 hA0 hNum
  simp only at hN0 hA0 hNum
  refine At.run 100 true [] [hU (.int .u64 n) 0 (rdr ⟨s.toArray⟩ a e0)] rfl (by (repeat' apply And.intro) <;> first | exact fun w' hw' => hNum hw' | exact True.intro | omega | rfl | (simp only [inK]; omega) | exact decide_eq_true (by omega) | exact decide_eq_false (by omega) | (simp; done) | (simp; omega) | (simp [Value.oneCell']; done) | exact i64s_one _ | exact AggOk.mk (by kernel_rfl) (by kernel_rfl)) ?_
  refine At.step [] rfl rfl rfl rfl rfl trivial (OpOk.alloc (cs := [sv none 0 0, sv none 0 0, sv none 0 0, sv none 0 0, .int .i64 0]) rfl (by kernel_rfl) fun b5 hb5 => ?_)
  refine At.run 100 true [] [hB 0] rfl (by (repeat' apply And.intro) <;> first | simp [Value.oneCell', sv]; done | exact True.intro | omega | rfl | (simp only [inK]; omega) | exact decide_eq_true (by omega) | exact decide_eq_false (by omega) | (simp; done) | (simp; omega) | (simp [Value.oneCell']; done) | exact i64s_one _ | exact AggOk.mk (by kernel_rfl) (by kernel_rfl)) ?_
  have hLeft : ∀ {w' : World} {bx : Bx} {hp : List Seg} {x : Nat × TypeId × List Value}, WOk ⟨w, kys [] []⟩ (x :: (b, 122, rdr ⟨s.toArray⟩ a e0) :: bx) hp w' → _ := fun {w' bx hp x} hw' => Tryz.Left_w ⟨s.toArray⟩ a e0 b w' (by rw [bl_str]; exact hA0.2) (by rw [bl_str]; exact hs) (hw'.bx (b, _, rdr _ _ _) (by simp))
  have hFault : ∀ {w' : World} {bx : Bx} {hp : List Seg} {x : Nat × TypeId × List Value}, WOk ⟨w, kys [] []⟩ (x :: (b, 122, rdr ⟨s.toArray⟩ a e0) :: bx) hp w' → _ := fun {w' bx hp x} hw' => Tryz.Fault_w ⟨s.toArray⟩ a e0 b w' (hw'.bx (b, _, rdr _ _ _) (by simp))
  simp only [bl_str] at hLeft
  have hsz : (bl ⟨s.toArray⟩).length = s.length := by rw [bl_str]
  refine At.quietT 10 2 true [] [hC (.int .i64 (s.length - a : Nat)), hC (.int .i64 e0)] ⟨by kernel_rfl, by kernel_rfl, rfl, by kernel_rfl, by kernel_rfl, by kernel_rfl, rfl, rfl, rfl⟩ rfl rfl rfl (by (repeat' apply And.intro) <;> first | exact fun w' hw' => hLeft hw' | exact fun w' hw' => hFault hw' | exact True.intro | omega | rfl | (simp only [inK]; omega) | exact decide_eq_true (by omega) | exact decide_eq_false (by omega) | (simp; done) | (simp; omega) | (simp [Value.oneCell']; done) | exact i64s_one _ | exact AggOk.mk (by kernel_rfl) (by kernel_rfl)) rfl ?_
  refine AtD.fork1 10 (by kernel_rfl) (StepD.by [] rfl rfl rfl rfl trivial (OpOk.box rfl rfl rfl fun gr hgr => ?_))
  refine AtD.pures (ob := True) true (by kernel_rfl) [11] (fuel := 0) (by kernel_rfl) rfl (by (repeat' apply And.intro) <;> first | exact True.intro | omega | (simp only [inK]; omega) | (simp; done) | (simp; omega) | exact decide_eq_true (by omega) | exact decide_eq_false (by omega) | rfl | (simp [Value.oneCell']; done) | exact i64s_one _ | exact AggOk.mk (by kernel_rfl) (by kernel_rfl)) ?_
  refine AtD.done (by kernel_rfl) ?_
  have hdr : (s.drop a).length ≤ 9223372036854775807 := by rw [List.length_drop]; omega
  have hdd : (((bl ⟨s.toArray⟩).length : Int) - ((s.length - a : Nat) : Int)).toNat = a := by omega
  refine At.keep [true, true, false, true] [] rfl ?_
  rw [hdd, bl_str]
  refine At.run 100 true [] [] rfl trivial ?_
  refine At.step [] rfl rfl rfl rfl rfl trivial (OpOk.call rfl (fun w' _ => Tryz.holders_w w') ?_)
  rintro v bx' hp' ⟨gf, rfl, rfl, rfl⟩
  refine At.run 100 true [] [] rfl trivial ?_
  refine At.step [] rfl rfl rfl rfl rfl trivial (OpOk.callO [false, true] [] rfl rfl (fun w' hw' hown => Tryz.snapGetHolder_w (s.drop a) e0 false 32 gr gf w' (by omega) (by have := hdr; omega) (hw'.bx (gf, _, Tryz.holdersL) (List.mem_cons_self ..)) hown (notKeyB hw')) ?_)
  rintro v bx' hp' ⟨y1, m1, x1, s1, e1, u1, rfl, rfl, rfl, hR1⟩
  have hl1 := hR1.slen
  refine At.run 100 true [] [hB 2] rfl (by (repeat' apply And.intro) <;> first | simp [Value.oneCell', sv]; done | exact True.intro | omega | rfl | (simp only [inK]; omega) | exact decide_eq_true (by omega) | exact decide_eq_false (by omega) | (simp; done) | (simp; omega) | (simp [Value.oneCell']; done) | exact i64s_one _ | exact AggOk.mk (by kernel_rfl) (by kernel_rfl)) ?_
  refine At.keep [true, false, true, true] [true] rfl ?_
  refine At.run 100 true [] [] rfl trivial ?_
  refine At.step [] rfl rfl rfl rfl rfl trivial (OpOk.call rfl (fun w' _ => Tryz.stakes_w w') ?_)
  rintro v bx' hp' ⟨gf, rfl, rfl, rfl⟩
  refine At.run 100 true [] [] rfl trivial ?_
  refine At.step [] rfl rfl rfl rfl rfl trivial (OpOk.callO [false, true] [] rfl rfl (fun w' hw' hown => Tryz.snapGetStake_w s1 e1 u1 1024 gr gf w' (by omega) (by have := hR1.slen; omega) (hw'.bx (gf, _, Tryz.stakesL) (List.mem_cons_self ..)) hown (notKeyB hw')) ?_)
  rintro v bx' hp' ⟨y2, m2, x2, s2, e2, u2, rfl, rfl, rfl, hR2⟩
  have hl2 := hR2.slen
  refine At.run 100 true [] [hB 2] rfl (by (repeat' apply And.intro) <;> first | simp [Value.oneCell', sv]; done | exact True.intro | omega | rfl | (simp only [inK]; omega) | exact decide_eq_true (by omega) | exact decide_eq_false (by omega) | (simp; done) | (simp; omega) | (simp [Value.oneCell']; done) | exact i64s_one _ | exact AggOk.mk (by kernel_rfl) (by kernel_rfl)) ?_
  refine At.keep [true, false, true, true] [true, true] rfl ?_
  refine At.run 100 true [] [] rfl trivial ?_
  refine At.step [] rfl rfl rfl rfl rfl trivial (OpOk.call rfl (fun w' _ => Tryz.opens_w w') ?_)
  rintro v bx' hp' ⟨gf, rfl, rfl, rfl⟩
  refine At.run 100 true [] [] rfl trivial ?_
  refine At.step [] rfl rfl rfl rfl rfl trivial (OpOk.callO [false, true] [] rfl rfl (fun w' hw' hown => Tryz.snapGetOpen_w s2 e2 u2 64 gr gf w' (by omega) (by have := hR2.slen; omega) (hw'.bx (gf, _, Tryz.opensL) (List.mem_cons_self ..)) hown (notKeyB hw')) ?_)
  rintro v bx' hp' ⟨y3, m3, x3, s3, e3, u3, rfl, rfl, rfl, hR3⟩
  have hl3 := hR3.slen
  refine At.run 100 true [] [hB 2] rfl (by (repeat' apply And.intro) <;> first | simp [Value.oneCell', sv]; done | exact True.intro | omega | rfl | (simp only [inK]; omega) | exact decide_eq_true (by omega) | exact decide_eq_false (by omega) | (simp; done) | (simp; omega) | (simp [Value.oneCell']; done) | exact i64s_one _ | exact AggOk.mk (by kernel_rfl) (by kernel_rfl)) ?_
  refine At.keep [true, false, true, true] [true, true, true] rfl ?_
  refine At.run 100 true [] [] rfl trivial ?_
  refine At.step [] rfl rfl rfl rfl rfl trivial (OpOk.call rfl (fun w' _ => Tryz.rates_w w') ?_)
  rintro v bx' hp' ⟨gf, rfl, rfl, rfl⟩
  refine At.run 100 true [] [] rfl trivial ?_
  refine At.step [] rfl rfl rfl rfl rfl trivial (OpOk.callO [false, true] [] rfl rfl (fun w' hw' hown => Tryz.snapGetRate_w s3 e3 u3 32 gr gf w' (by omega) (by have := hR3.slen; omega) (hw'.bx (gf, _, Tryz.ratesL) (List.mem_cons_self ..)) hown (notKeyB hw')) ?_)
  rintro v bx' hp' ⟨y4, m4, x4, s4, e4, u4, rfl, rfl, rfl, hR4⟩
  have hl4 := hR4.slen
  refine At.run 100 true [] [hB 2] rfl (by (repeat' apply And.intro) <;> first | simp [Value.oneCell', sv]; done | exact True.intro | omega | rfl | (simp only [inK]; omega) | exact decide_eq_true (by omega) | exact decide_eq_false (by omega) | (simp; done) | (simp; omega) | (simp [Value.oneCell']; done) | exact i64s_one _ | exact AggOk.mk (by kernel_rfl) (by kernel_rfl)) ?_
  refine At.keep [true, false, true, true] [true, true, true, true] rfl ?_
  have hch := getBk_chain hN hR1 hR2 hR3 hR4
  by_cases he : e4 = 0
  · subst he
    by_cases hs4 : s4 = []
    · subst hs4
      cases hu : u4 with
      | true =>
        subst hu
        have hb := hch.2.1 rfl (.inr rfl)
        refine At.run 100 true [false, false, true, true] [hB 0, hB 0, hB 0, hB 2] rfl (by (repeat' apply And.intro) <;> first | simp [Value.oneCell', sv]; done | exact True.intro | omega | rfl | (simp only [inK]; omega) | exact decide_eq_true (by omega) | exact decide_eq_false (by omega) | (simp; done) | (simp; omega) | (simp [Value.oneCell']; done) | exact i64s_one _ | exact AggOk.mk (by kernel_rfl) (by kernel_rfl)) ?_
        refine At.keep [true, true, true] [] rfl ?_
        refine At.nilRow 46 4 ?_
        refine At.nilRow 51 3 ?_
        refine At.nilRow 56 6 ?_
        refine At.nilRow 61 2 ?_
        exact At.retK [] [true, true, true, true] [hB 2] rfl rfl Tryz.func10 rfl (by (repeat' apply And.intro) <;> first | exact True.intro | omega | (simp only [inK]; omega) | (simp; done) | (simp; omega) | exact decide_eq_true (by omega) | exact decide_eq_false (by omega) | rfl | (simp [Value.oneCell']; done) | exact i64s_one _ | exact AggOk.mk (by kernel_rfl) (by kernel_rfl)) ⟨⟨none, none, none, none, 0, 0, 0, 0⟩, by rw [hb]; rfl, rfl, by rw [hb]; rfl⟩
      | false =>
        subst hu
        obtain ⟨bk, hbi, hbS, hbc, rfl, rfl, rfl, rfl, rfl, rfl, rfl, rfl, hb⟩ := hch.2.2 rfl rfl rfl
        have hM : ∀ {bx : Bx}, CallOb Tryz.prog ⟨w, kys [] []⟩ bx [Seg.row y4 61 2 bk.R.length bk.R.length (bk.R.flatMap i64s), Seg.row y3 56 6 bk.O.length bk.O.length (bk.O.flatMap i64s), Seg.row y2 51 3 bk.S.length bk.S.length (bk.S.flatMap i64s), Seg.row y1 46 4 bk.H.length bk.H.length (bk.H.flatMap i64s)] 14 [.agg ⟨[sv y1 bk.H.length bk.H.length, sv y2 bk.S.length bk.S.length, sv y3 bk.O.length bk.O.length, sv y4 bk.R.length bk.R.length, .int .i64 n]⟩] (.bool (mayB bk)) := fun {_} w' hw' => by
          have := Tryz.May_w bk (BkG.A ⟨y1, y2, y3, y4, bk.H.length, bk.S.length, bk.O.length, bk.R.length⟩) w' hbi (Tryz.bkRows_ok hw' (fun s hs => hs))
          rw [← hbc]; exact this
        cases hm : mayB bk with
        | true =>
          rw [hm] at hM hb
          rw [if_pos rfl] at hb
          refine At.run 100 true [false, false, false, false] [hB 0, hB 0, hB 0, hB 1, hC (.bool true), hB 1, hB 2] rfl (by (repeat' apply And.intro) <;> first | exact hM | simp [Value.oneCell', sv]; done | exact True.intro | omega | rfl | (simp only [inK]; omega) | exact decide_eq_true (by omega) | exact decide_eq_false (by omega) | (simp; done) | (simp; omega) | (simp [Value.oneCell']; done) | exact i64s_one _ | exact AggOk.mk (by kernel_rfl) (by kernel_rfl)) ?_
          exact At.retK [] [true, true, true, true] [hB 2] rfl rfl Tryz.func10 rfl (by (repeat' apply And.intro) <;> first | exact True.intro | omega | (simp only [inK]; omega) | (simp; done) | (simp; omega) | exact decide_eq_true (by omega) | exact decide_eq_false (by omega) | rfl | (simp [Value.oneCell']; done) | exact i64s_one _ | exact AggOk.mk (by kernel_rfl) (by kernel_rfl)) ⟨⟨y1, y2, y3, y4, bk.H.length, bk.S.length, bk.O.length, bk.R.length⟩, by rw [hb]; simp only [bkV, hbc]; rfl, rfl, by rw [hb]; rfl⟩
        | false =>
          rw [hm] at hM hb
          rw [if_neg (by simp)] at hb
          refine At.run 100 true [false, false, false, true] [hB 0, hB 0, hB 0, hB 1, hC (.bool false), hB 2] rfl (by (repeat' apply And.intro) <;> first | exact hM | simp [Value.oneCell', sv]; done | exact True.intro | omega | rfl | (simp only [inK]; omega) | exact decide_eq_true (by omega) | exact decide_eq_false (by omega) | (simp; done) | (simp; omega) | (simp [Value.oneCell']; done) | exact i64s_one _ | exact AggOk.mk (by kernel_rfl) (by kernel_rfl)) ?_
          refine At.keep [true, true, true] [] rfl ?_
          refine At.nilRow 46 4 ?_
          refine At.nilRow 51 3 ?_
          refine At.nilRow 56 6 ?_
          refine At.nilRow 61 2 ?_
          exact At.retK [] [true, true, true, true] [hB 2] rfl rfl Tryz.func10 rfl (by (repeat' apply And.intro) <;> first | exact True.intro | omega | (simp only [inK]; omega) | (simp; done) | (simp; omega) | exact decide_eq_true (by omega) | exact decide_eq_false (by omega) | rfl | (simp [Value.oneCell']; done) | exact i64s_one _ | exact AggOk.mk (by kernel_rfl) (by kernel_rfl)) ⟨⟨none, none, none, none, 0, 0, 0, 0⟩, by rw [hb]; rfl, rfl, by rw [hb]; rfl⟩
    · have hb := hch.2.1 rfl (.inl hs4)
      refine At.run 100 true [false, true, true, true] [hB 0, hB 0, hB 2] rfl (by (repeat' apply And.intro) <;> first | simp [hs4]; done | exact True.intro | omega | rfl | (simp only [inK]; omega) | exact decide_eq_true (by omega) | exact decide_eq_false (by omega) | (simp; done) | (simp; omega) | (simp [Value.oneCell']; done) | exact i64s_one _ | exact AggOk.mk (by kernel_rfl) (by kernel_rfl)) ?_
      refine At.keep [true, true, true] [] rfl ?_
      refine At.nilRow 46 4 ?_
      refine At.nilRow 51 3 ?_
      refine At.nilRow 56 6 ?_
      refine At.nilRow 61 2 ?_
      exact At.retK [] [true, true, true, true] [hB 2] rfl rfl Tryz.func10 rfl (by (repeat' apply And.intro) <;> first | exact True.intro | omega | (simp only [inK]; omega) | (simp; done) | (simp; omega) | exact decide_eq_true (by omega) | exact decide_eq_false (by omega) | rfl | (simp [Value.oneCell']; done) | exact i64s_one _ | exact AggOk.mk (by kernel_rfl) (by kernel_rfl)) ⟨⟨none, none, none, none, 0, 0, 0, 0⟩, by rw [hb]; rfl, rfl, by rw [hb]; rfl⟩
  · have hb := hch.1 he
    refine At.run 100 true [true] [hB 0] rfl (by (repeat' apply And.intro) <;> first | exact True.intro | omega | (simp only [inK]; omega) | (simp; done) | (simp; omega) | exact decide_eq_true (by omega) | exact decide_eq_false (by omega) | rfl | (simp [Value.oneCell']; done) | exact i64s_one _ | exact AggOk.mk (by kernel_rfl) (by kernel_rfl)) ?_
    refine At.draw 7 rfl rfl rfl rfl ?_
    refine AtD.pures (ob := True) true (by kernel_rfl) [0, 1, 2, 3] (fuel := 3) (by kernel_rfl) rfl (by (repeat' apply And.intro) <;> first | exact True.intro | omega | (simp only [inK]; omega) | (simp; done) | (simp; omega) | exact decide_eq_true (by omega) | exact decide_eq_false (by omega) | rfl | (simp [Value.oneCell']; done) | exact i64s_one _ | exact AggOk.mk (by kernel_rfl) (by kernel_rfl)) ?_
    refine AtD.fork2 4 5 (by kernel_rfl) ?_ ?_
    · refine StepD.by [] rfl rfl rfl rfl trivial (OpOk.one true [] [hB 0] rfl rfl ?_)
      refine AtD.fork1 5 (by kernel_rfl) (StepD.by0 [] rfl rfl rfl trivial (OpOk.one true [] [hB 2] rfl (by (repeat' apply And.intro) <;> first | simp [Value.oneCell', sv]; done | exact True.intro | omega | rfl | (simp only [inK]; omega) | exact decide_eq_true (by omega) | exact decide_eq_false (by omega) | (simp; done) | (simp; omega) | (simp [Value.oneCell']; done) | exact i64s_one _ | exact AggOk.mk (by kernel_rfl) (by kernel_rfl)) ?_))
      refine AtD.pures (ob := True) true (by kernel_rfl) [6] (fuel := 0) (by kernel_rfl) rfl trivial ?_
      refine AtD.done (by kernel_rfl) ?_
      refine At.run 100 true [] [] rfl trivial ?_
      refine At.keep [true, true, true] [] rfl ?_
      refine At.nilRow 46 4 ?_
      refine At.nilRow 51 3 ?_
      refine At.nilRow 56 6 ?_
      refine At.nilRow 61 2 ?_
      exact At.retK [] [true, true, true, true] [hB 2] rfl rfl Tryz.func10 rfl (by (repeat' apply And.intro) <;> first | exact True.intro | omega | (simp only [inK]; omega) | (simp; done) | (simp; omega) | exact decide_eq_true (by omega) | exact decide_eq_false (by omega) | rfl | (simp [Value.oneCell']; done) | exact i64s_one _ | exact AggOk.mk (by kernel_rfl) (by kernel_rfl)) ⟨⟨none, none, none, none, 0, 0, 0, 0⟩, by rw [hb]; rfl, rfl, by rw [hb]; rfl⟩
    · refine StepD.by0 [] rfl rfl rfl trivial (OpOk.one true [] [hB 2] rfl (by (repeat' apply And.intro) <;> first | simp [Value.oneCell', sv]; done | exact True.intro | omega | rfl | (simp only [inK]; omega) | exact decide_eq_true (by omega) | exact decide_eq_false (by omega) | (simp; done) | (simp; omega) | (simp [Value.oneCell']; done) | exact i64s_one _ | exact AggOk.mk (by kernel_rfl) (by kernel_rfl)) ?_)
      refine AtD.fork1 4 (by kernel_rfl) (StepD.by [] rfl rfl rfl rfl trivial (OpOk.one true [] [hB 0] rfl rfl ?_))
      refine AtD.pures (ob := True) true (by kernel_rfl) [6] (fuel := 0) (by kernel_rfl) rfl trivial ?_
      refine AtD.done (by kernel_rfl) ?_
      refine At.run 100 true [] [] rfl trivial ?_
      refine At.keep [true, true, true] [] rfl ?_
      refine At.nilRow 46 4 ?_
      refine At.nilRow 51 3 ?_
      refine At.nilRow 56 6 ?_
      refine At.nilRow 61 2 ?_
      exact At.retK [] [true, true, true, true] [hB 2] rfl rfl Tryz.func10 rfl (by (repeat' apply And.intro) <;> first | exact True.intro | omega | (simp only [inK]; omega) | (simp; done) | (simp; omega) | exact decide_eq_true (by omega) | exact decide_eq_false (by omega) | rfl | (simp [Value.oneCell']; done) | exact i64s_one _ | exact AggOk.mk (by kernel_rfl) (by kernel_rfl)) ⟨⟨none, none, none, none, 0, 0, 0, 0⟩, by rw [hb]; rfl, rfl, by rw [hb]; rfl⟩

end Go.Proofs

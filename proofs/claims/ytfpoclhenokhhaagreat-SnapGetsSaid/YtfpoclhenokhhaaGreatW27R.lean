/-
  Walks of layer 13: books put.
-/
import Derived.Test.YtfpoclhenokhhaaGreatE17
import Derived.Test.YtfpoclhenokhhaaGreatP7
import Derived.Test.YtfpoclhenokhhaaGreatW27H
import Derived.Test.YtfpoclhenokhhaaGreatW4
namespace Go.Proofs
open Go Go.Eng
set_option maxRecDepth 100000
set_option maxHeartbeats 4000000
attribute [local irreducible] Tri


theorem Tryz.rates1_w : GetOk Tryz.prog 2 0 79 := by
  intro x w hx
  obtain ⟨x0, x1, rfl⟩ := len2 hx
  refine Tri.enter (bx := []) (hp := []) Tryz.func79 rfl (by kernel_rfl) rfl (Own.nil w) ?_
  refine At.run 100 true [] [] rfl trivial ?_
  refine At.step [] rfl rfl rfl rfl rfl trivial (OpOk.box rfl rfl rfl fun bq hbq => ?_)
  refine At.run 100 true [] [hB 0] rfl (by (repeat' apply And.intro) <;> first | exact True.intro | omega | (simp only [inK]; omega) | (simp; done) | (simp; omega) | exact decide_eq_true (by omega) | exact decide_eq_false (by omega) | rfl | (simp [Value.oneCell']; done) | exact i64s_one _ | exact AggOk.mk (by kernel_rfl) (by kernel_rfl)) ?_
  exact At.retK [] [] [] rfl rfl Tryz.func79 rfl trivial ⟨rfl, rfl, rfl⟩

theorem Tryz.rates3_w : GetOk Tryz.prog 2 1 81 := by
  intro x w hx
  obtain ⟨x0, x1, rfl⟩ := len2 hx
  refine Tri.enter (bx := []) (hp := []) Tryz.func81 rfl (by kernel_rfl) rfl (Own.nil w) ?_
  refine At.run 100 true [] [] rfl trivial ?_
  refine At.step [] rfl rfl rfl rfl rfl trivial (OpOk.box rfl rfl rfl fun bq hbq => ?_)
  refine At.run 100 true [] [hB 0] rfl (by (repeat' apply And.intro) <;> first | exact True.intro | omega | (simp only [inK]; omega) | (simp; done) | (simp; omega) | exact decide_eq_true (by omega) | exact decide_eq_false (by omega) | rfl | (simp [Value.oneCell']; done) | exact i64s_one _ | exact AggOk.mk (by kernel_rfl) (by kernel_rfl)) ?_
  exact At.retK [] [] [] rfl rfl Tryz.func81 rfl trivial ⟨rfl, rfl, rfl⟩

def Tryz.ratesL : List Value := [.func (.func 79) ⟨[]⟩ ⟨[]⟩, .func (.func 80) ⟨[]⟩ ⟨[]⟩, .func (.func 81) ⟨[]⟩ ⟨[]⟩, .func (.func 82) ⟨[]⟩ ⟨[]⟩]

theorem Tryz.rates_w (w : World) : Tri Tryz.prog 23 [] w [] (fun v bx hp => ∃ b, v = sv (some b) 2 2 ∧ bx = [(b, 119, Tryz.ratesL)] ∧ hp = []) := by
  refine Tri.enter (bx := []) (hp := []) Tryz.func23 rfl (by kernel_rfl) rfl (Own.nil w) ?_
  refine At.run 100 true [] [] rfl trivial ?_
  refine At.step [] rfl rfl rfl rfl rfl trivial (OpOk.buildSlice rfl rfl rfl rfl rfl rfl rfl (fun b hb => ?_))
  refine At.run 100 true [] [] rfl (by (repeat' apply And.intro) <;> first | exact True.intro | omega | (simp only [inK]; omega) | (simp; done) | (simp; omega) | exact decide_eq_true (by omega) | exact decide_eq_false (by omega) | rfl | (simp [Value.oneCell']; done) | exact i64s_one _ | exact AggOk.mk (by kernel_rfl) (by kernel_rfl)) ?_
  exact At.ret [] rfl Tryz.func23 rfl trivial ⟨b, rfl, rfl, rfl⟩

theorem Tryz.ratesL_get (i : Nat) (hi : i < 2) : ∃ F G, Tryz.ratesL[i * 2]? = some (.func (.func F) ⟨[]⟩ ⟨[]⟩) ∧ Tryz.ratesL[i * 2 + 1]? = some (.func (.func G) ⟨[]⟩ ⟨[]⟩) ∧ GetOk Tryz.prog 2 i F := by
  match i, hi with
  | 0, _ => exact ⟨_, _, rfl, rfl, Tryz.rates1_w⟩
  | 1, _ => exact ⟨_, _, rfl, rfl, Tryz.rates3_w⟩

theorem Tryz.snapPutRate_w (out : List UInt8) (og : Option Nat) (oc : Nat) (l : List (List Int)) (a : Option Addr) (cap gf : Nat) (w : World) (hl : Recs 2 l) (hlen : l.length ≤ 65536) (hob : out.length ≤ 1000000000) (hrow : SlOk w a (l.flatMap i64s))
    (hf : w.heap[gf]? = some (.cells Tryz.ratesL.toArray 119 (0, 0))) (hown : Own [] [Seg.row og 5 1 out.length oc (u8s out)] w) (hm : gf ∉ kys [] [Seg.row og 5 1 out.length oc (u8s out)]) (hma : ∀ k, k ∈ slR a (l.flatMap i64s) → k ∉ kys [] [Seg.row og 5 1 out.length oc (u8s out)]) :
    Tri Tryz.prog 22 [sv og out.length oc, .slice a l.length cap, sv (some gf) 2 2] w (kys [] [Seg.row og 5 1 out.length oc (u8s out)])
      (fun v bx hp => ∃ og' oc', v = sv og' (out ++ putB 2 l).length oc' ∧ bx = [] ∧ hp = [Seg.row og' 5 1 (out ++ putB 2 l).length oc' (u8s (out ++ putB 2 l))]) := by
  refine Tri.enter Tryz.func22 rfl (by kernel_rfl) rfl hown ?_
  have hpl := putB_len hl hlen
  refine At.run 100 true [] [] rfl trivial ?_
  refine At.loop (n := 2) (env0 := [(0, sv og out.length oc), (1, .slice a l.length cap), (14, .slice (some ⟨gf, 0, none⟩) 2 2), (15, .int .i64 2), (16, .int .i64 0)]) (fun m env bx hp => ∃ (i : Nat) (og' : Option Nat) (oc' : Nat), m = 2 - i ∧ i ≤ 2 ∧
    env = [(0, sv og' (out ++ putB i l).length oc'), (1, .slice a l.length cap), (14, .slice (some ⟨gf, 0, none⟩) 2 2), (15, .int .i64 2), (16, .int .i64 i)] ∧ bx = [] ∧ hp = [Seg.row og' 5 1 (out ++ putB i l).length oc' (u8s (out ++ putB i l))]) rfl
    ⟨0, og, oc, rfl, by omega, by simp [putB], rfl, by simp [putB]⟩ ⟨rfl, rfl, rfl, rfl, rfl, trivial⟩ ?_
  rintro m env bx hp ⟨i, og', oc', rfl, hi, rfl, rfl, rfl⟩ ih
  have hpi := hpl i
  have hbnd : (out ++ putB i l).length ≤ 1000000000 + 2 * (10 + 20 * 65536) := by
    rw [List.length_append]
    have : i * (10 + 20 * l.length) ≤ 2 * (10 + 20 * 65536) := Nat.mul_le_mul hi (by omega)
    omega
  by_cases hlt : i < 2
  · obtain ⟨F, G, hF, hG, hget⟩ := Tryz.ratesL_get i hlt
    have hld : ∀ {bx : Bx} {hp : List Seg}, RdW ⟨w, kys [] [Seg.row og 5 1 out.length oc (u8s out)]⟩ bx hp gf (0 + (i : Int).toNat * 2) [.func (.func F) ⟨[]⟩ ⟨[]⟩, .func (.func G) ⟨[]⟩ ⟨[]⟩] := fun {_ _} => RdW.blkB hm hf (fun j u hu => by
      match j, hu with
      | 0, hu => simp at hu; subst hu; rw [show 0 + (i : Int).toNat * 2 + 0 = i * 2 by omega]; exact hF
      | 1, hu => simp at hu; subst hu; rw [show 0 + (i : Int).toNat * 2 + 1 = i * 2 + 1 by omega]; exact hG)
    refine At.run 100 true [true] [hR [.func (.func F) ⟨[]⟩ ⟨[]⟩, .func (.func G) ⟨[]⟩ ⟨[]⟩]] rfl (by (repeat' apply And.intro) <;> first | exact hld | exact True.intro | omega | rfl | (simp only [inK]; omega) | exact decide_eq_true (by omega) | exact decide_eq_false (by omega) | (simp; done) | (simp; omega) | (simp [Value.oneCell']; done) | exact i64s_one _ | exact AggOk.mk (by kernel_rfl) (by kernel_rfl)) ?_
    refine At.step [] rfl rfl rfl rfl rfl trivial (OpOk.alloc (cs := [.nilFunc, .nilFunc]) rfl (by kernel_rfl) fun b8 hb8 => ?_)
    refine At.run 100 true [] [hB 0] rfl (by (repeat' apply And.intro) <;> first | exact True.intro | omega | (simp only [inK]; omega) | (simp; done) | (simp; omega) | exact decide_eq_true (by omega) | exact decide_eq_false (by omega) | rfl | (simp [Value.oneCell']; done) | exact i64s_one _ | exact AggOk.mk (by kernel_rfl) (by kernel_rfl)) ?_
    refine At.nilRow 2 1 ?_
    refine At.loop (n := l.length) (env0 := [(0, sv og' (out ++ putB i l).length oc'), (1, .slice a l.length cap), (8, .pointer (some ⟨b8, 0, none⟩)), (9, sv none 0 0), (14, .slice (some ⟨gf, 0, none⟩) 2 2), (15, .int .i64 2), (16, .int .i64 i), (20, .slice a l.length cap), (21, .int .i64 l.length), (22, .int .i64 0)])
      (fun m env bx hp => ∃ (j : Nat) (cg : Option Nat) (cc : Nat), m = l.length - j ∧ j ≤ l.length ∧
        env = [(0, sv og' (out ++ putB i l).length oc'), (1, .slice a l.length cap), (8, .pointer (some ⟨b8, 0, none⟩)), (9, sv cg j cc), (14, .slice (some ⟨gf, 0, none⟩) 2 2), (15, .int .i64 2), (16, .int .i64 i), (20, .slice a l.length cap), (21, .int .i64 l.length), (22, .int .i64 j)] ∧
        bx = [(b8, 119, [.func (.func F) ⟨[]⟩ ⟨[]⟩, .func (.func G) ⟨[]⟩ ⟨[]⟩])] ∧ hp = [Seg.row cg 2 1 j cc (i64s (colOf (l.take j) i)), Seg.row og' 5 1 (out ++ putB i l).length oc' (u8s (out ++ putB i l))]) rfl
      ⟨0, none, 0, rfl, by omega, rfl, rfl, rfl⟩ ⟨rfl, rfl, rfl, rfl, rfl, rfl, rfl, rfl, rfl, rfl, trivial⟩ ?_
    rintro m env bx hp ⟨j, cg, cc, rfl, hj, rfl, rfl, rfl⟩ ih2
    by_cases hjl : j < l.length
    · obtain ⟨x, hx⟩ : ∃ x, l[j]? = some x := ⟨_, List.getElem?_eq_getElem hjl⟩
      have hmx := List.mem_of_getElem? hx
      obtain ⟨g, oo, rfl, hc⟩ := hrow.get (slNe (by decide) hl.len hx)
      have r1 : ∀ {bx : Bx} {hp : List Seg}, RdW ⟨w, kys [] [Seg.row og 5 1 out.length oc (u8s out)]⟩ bx hp g (oo + (j : Int).toNat * 2) (i64s x) := fun {_ _} => RdW.rec hl.len hc (hma g (mem_slR (slNe (by decide) hl.len hx))) hx (by omega)
      have hcol : colOf (l.take (j + 1)) i = colOf (l.take j) i ++ [nthI x i] := by rw [List.take_add_one, hx]; simp [colOf]
      have hgx := fun w' => hget x w' (hl.len x hmx)
      generalize nthI x i = q at *
      obtain ⟨x0, x1, rfl⟩ := len2 (hl.len x hmx)
      refine At.run 100 true [true] [hR [.int .i64 x0, .int .i64 x1]] rfl (by (repeat' apply And.intro) <;> first | exact r1 | exact True.intro | omega | rfl | (simp only [inK]; omega) | exact decide_eq_true (by omega) | exact decide_eq_false (by omega) | (simp; done) | (simp; omega) | (simp [Value.oneCell']; done) | exact i64s_one _ | exact AggOk.mk (by kernel_rfl) (by kernel_rfl)) ?_
      refine At.step [] rfl rfl rfl rfl rfl trivial (OpOk.alloc (cs := i64s [0, 0]) rfl (by kernel_rfl) fun b11 hb11 => ?_)
      refine At.run 100 true [] [hB 0, hB 1, hB 0, hC (.int .i64 q)] rfl (by (repeat' apply And.intro) <;> first | exact fun w' _ => hgx w' | exact True.intro | omega | rfl | (simp only [inK]; omega) | exact decide_eq_true (by omega) | exact decide_eq_false (by omega) | (simp; done) | (simp; omega) | (simp [Value.oneCell']; done) | exact i64s_one _ | exact AggOk.mk (by kernel_rfl) (by kernel_rfl)) ?_
      refine At.append1 0 1 8 rfl rfl rfl rfl rfl rfl rfl rfl rfl trivial (fun _ => rfl) trivial rfl rfl rfl rfl rfl rfl rfl rfl (fun _ => rfl) (by simp [Value.oneCell']) (by omega) (by omega) (fun bb a2 cap2 => ?_)
      refine At.run 100 true [] [] rfl (by (repeat' apply And.intro) <;> first | exact True.intro | omega | (simp only [inK]; omega) | (simp; done) | (simp; omega) | exact decide_eq_true (by omega) | exact decide_eq_false (by omega) | rfl | (simp [Value.oneCell']; done) | exact i64s_one _ | exact AggOk.mk (by kernel_rfl) (by kernel_rfl)) ?_
      refine At.keep [false, true] [true, true] rfl ?_
      refine At.weak (ih2 (l.length - (j + 1)) _ _ _ (by omega) ⟨j + 1, a2, cap2, rfl, by omega, rfl, rfl, ?_⟩) ⟨rfl, rfl, rfl, rfl, rfl, rfl, rfl, rfl, rfl, some_int_eq (by omega), trivial⟩
      rw [hcol]; simp [setL, i64s]
    · have : j = l.length := by omega
      subst this
      rw [List.take_length]
      have hcl := colOf_len l i
      have hcp : ∀ {bx : Bx} {hp : List Seg}, CallOb Tryz.prog ⟨w, kys [] [Seg.row og 5 1 out.length oc (u8s out)]⟩ bx (Seg.row cg 2 1 l.length cc (i64s (colOf l i)) :: hp) 52 [sv cg l.length cc] (.tuple #[str (colL (colOf l i)), .int .i64 0]) := fun {bx hp} w' hw' => by
        have := Tryz.Put_w (colOf l i) (svA cg) cc w' (by omega) (SlOk.row (hw'.hp (Seg.row cg 2 1 l.length cc (i64s (colOf l i))) (by simp)))
        rw [hcl] at this; exact this
      have hcll := colL_len (colOf l i) (colOf_in hl i) (by omega)
      refine At.run 100 true [false] [hC (.tuple #[str (colL (colOf l i)), .int .i64 0])] rfl (by (repeat' apply And.intro) <;> first | exact hcp | exact True.intro | omega | rfl | (simp only [inK]; omega) | exact decide_eq_true (by omega) | exact decide_eq_false (by omega) | (simp; done) | (simp; omega) | (simp [Value.oneCell']; done) | exact i64s_one _ | exact AggOk.mk (by kernel_rfl) (by kernel_rfl)) ?_
      refine At.step [] rfl rfl rfl rfl rfl trivial (OpOk.appendStr 1 rfl rfl rfl rfl rfl rfl rfl (by rw [bl_mk]; omega) fun a3 cap3 => ?_)
      rw [bl_mk]
      refine At.run 100 true [] [] rfl (by (repeat' apply And.intro) <;> first | exact True.intro | omega | (simp only [inK]; omega) | (simp; done) | (simp; omega) | exact decide_eq_true (by omega) | exact decide_eq_false (by omega) | rfl | (simp [Value.oneCell']; done) | exact i64s_one _ | exact AggOk.mk (by kernel_rfl) (by kernel_rfl)) ?_
      refine At.keep [] [false, true] rfl ?_
      refine At.weak (ih (2 - (i + 1)) _ _ _ (by omega) ⟨i + 1, a3, cap3, rfl, by omega, rfl, rfl, ?_⟩) ⟨some_sv_eq (by rw [putB_succ]; simp only [List.length_append]; omega), rfl, rfl, rfl, some_int_eq (by omega), trivial⟩
      rw [putB_succ]; simp only [setL, u8s_append, List.length_append, List.append_assoc, Nat.add_assoc]
  · have : i = 2 := by omega
    subst this
    refine At.run 100 true [false] [] rfl (by (repeat' apply And.intro) <;> first | exact True.intro | omega | (simp only [inK]; omega) | (simp; done) | (simp; omega) | exact decide_eq_true (by omega) | exact decide_eq_false (by omega) | rfl | (simp [Value.oneCell']; done) | exact i64s_one _ | exact AggOk.mk (by kernel_rfl) (by kernel_rfl)) ?_
    exact At.ret [] rfl Tryz.func22 rfl trivial ⟨og', oc', rfl, rfl, rfl⟩

end Go.Proofs

/-
  Walks of layer 11: the reference's columns.
-/
import Derived.Test.YtfpoclhenokhhaaGreatW8
import Derived.Test.YtfpoclhenokhhaaGreatW9
namespace Go.Proofs
open Go Go.Eng
set_option maxRecDepth 100000
set_option maxHeartbeats 4000000
attribute [local irreducible] Tri

theorem lt_of_get {α : Type} {l : List α} {i : Nat} {x : α} (h : l[i]? = some x) : i < l.length := (List.getElem?_eq_some_iff.1 h).1
theorem take_succ_get {α : Type} {l : List α} {i : Nat} {x : α} (h : l[i]? = some x) : l.take (i + 1) = l.take i ++ [x] := by
  rw [List.take_add_one, h]; rfl

theorem diffs_snoc (x : Int) : ∀ (l : List Int) (a : Int), diffs a (l ++ [x]) = diffs a l ++ [IntKind.i64.wrap (x - l.getLast?.getD a)]
  | [], a => rfl
  | y :: l, a => by
    rw [List.cons_append, diffs, diffs_snoc x l y, diffs]
    cases l with
    | nil => rfl
    | cons z l =>
      obtain ⟨q, hq⟩ : ∃ q, (z :: l).getLast? = some q := ⟨_, List.getLast?_eq_some_getLast (by simp)⟩
      rw [List.getLast?_cons_cons, hq]; rfl
theorem setL_at (A : List Value) (x y z : Value) : putL (A ++ [x, y]) (A.length + 1) [z] = A ++ [x, z] := by
  simp only [putL]; rw [setL_eq, List.set_append_right _ _ (by omega)]; simp
theorem flat_len (l : List (Int × Nat)) : (l.flatMap encR).length = l.length * 2 := by
  induction l with
  | nil => rfl
  | cons x l ih => simp [List.flatMap_cons, ih, encR]; omega

theorem Tryz.rRuns_w (xs : List Int) (a : Option Addr) (cap : Nat) (w : World) (hlen : xs.length ≤ 1048576) (hrow : SlOk w a (i64s xs)) :
    Tri Tryz.prog 89 [.slice a xs.length cap] w [] (fun v bx hp => ∃ a' cap', v = sv a' (rle (diffs 0 xs)).length cap' ∧ bx = [] ∧ hp = [Seg.row a' 129 2 (rle (diffs 0 xs)).length cap' ((rle (diffs 0 xs)).flatMap encR)]) := by
  refine Tri.enter (bx := []) (hp := []) Tryz.func89 rfl (by kernel_rfl) rfl (Own.nil w) ?_
  refine At.run 100 true [] [] rfl trivial ?_
  refine At.nilRow 129 2 ?_
  refine At.loop (n := xs.length) (env0 := [(0, .slice a xs.length cap), (3, sv none 0 0), (4, .int .i64 0), (5, .int .i64 0)]) (fun m env bx hp => ∃ (i : Nat) (rs : List (Int × Nat)) (a' : Option Nat) (cap' : Nat), m = xs.length - i ∧ i ≤ xs.length ∧ rs = rle (diffs 0 (xs.take i)) ∧
    env = [(0, .slice a xs.length cap), (3, sv a' rs.length cap'), (4, .int .i64 ((xs.take i).getLast?.getD 0)), (5, .int .i64 i)] ∧ bx = [] ∧ hp = [Seg.row a' 129 2 rs.length cap' (rs.flatMap encR)]) rfl
    ⟨0, [], none, 0, by simp, by omega, rfl, rfl, rfl, rfl⟩ ⟨rfl, rfl, rfl, rfl, trivial⟩ ?_
  rintro m env bx hp ⟨i, rs, a', cap', rfl, hi, hrs, rfl, rfl, rfl⟩ ih
  by_cases hlt : i < xs.length
  · obtain ⟨x, hxi⟩ : ∃ x, xs[i]? = some x := ⟨_, List.getElem?_eq_getElem hlt⟩
    obtain ⟨g, o, rfl, hc⟩ := hrow.get (by intro e; simp only [i64s, List.map_eq_nil_iff] at e; rw [e] at hlt; simp at hlt)
    have r1 : ∀ {bx : Bx} {hp : List Seg}, RdW ⟨w, kys [] []⟩ bx hp g (o + (i : Int).toNat * 1) [.int .i64 x] := fun {_ _} => RdW.base1 (by simp [kys]) (by rw [Nat.mul_one]; exact hc i _ (i64s_get hxi))
    have hnext : rle (diffs 0 (xs.take (i + 1))) = addR rs (IntKind.i64.wrap (x - (xs.take i).getLast?.getD 0)) := by rw [take_succ_get hxi, diffs_snoc, rle_snoc, hrs]
    have hlast : (xs.take (i + 1)).getLast?.getD 0 = x := by rw [take_succ_get hxi]; simp
    have hrl := rle_len (diffs 0 (xs.take i))
    rw [diffs_len, List.length_take, ← hrs] at hrl
    generalize (xs.take i).getLast?.getD 0 = ah at *
    rcases List.eq_nil_or_concat rs with rfl | ⟨pre, ⟨e, n⟩, rfl⟩
    · refine At.run 100 false [true, false, false] [hR [.int .i64 x], hR [.int .i64 x]] rfl (by (repeat' apply And.intro) <;> first | exact r1 | exact True.intro | omega | rfl | (simp only [inK]; omega) | exact decide_eq_true (by omega) | exact decide_eq_false (by omega) | (simp; done) | (simp; omega) | (simp [Value.oneCell']; done) | exact i64s_one _ | exact AggOk.mk (by kernel_rfl) (by kernel_rfl)) ?_
      generalize IntKind.i64.wrap (x - ah) = d at *
      refine At.append1 0 2 16 rfl rfl rfl rfl rfl rfl rfl rfl rfl trivial (fun _ => rfl) trivial rfl rfl rfl rfl rfl rfl rfl rfl (fun _ => rfl) (by simp [Value.oneCell']) (by simp) (by simp) (fun bb a2 cap2 => ?_)
      refine At.run 100 true [] [] rfl (by (repeat' apply And.intro) <;> first | exact True.intro | omega | (simp only [inK]; omega) | (simp; done) | (simp; omega) | exact decide_eq_true (by omega) | exact decide_eq_false (by omega) | rfl | (simp [Value.oneCell']; done) | exact i64s_one _ | exact AggOk.mk (by kernel_rfl) (by kernel_rfl)) ?_
      refine At.weak (ih (xs.length - (i + 1)) _ _ _ (by omega) ⟨i + 1, [(d, 1)], a2, cap2, rfl, by omega, by rw [hnext]; rfl, rfl, rfl, rfl⟩) ⟨rfl, rfl, some_int_eq hlast.symm, some_int_eq (by omega), trivial⟩
    · simp only [List.concat_eq_append] at *
      refine At.rowSome 0 rfl (by simp) (fun g2 hg2 => ?_)
      subst hg2
      have hsz : (pre ++ [(e, n)]).length = pre.length + 1 := by simp
      have hfl : (pre ++ [(e, n)]).flatMap encR = pre.flatMap encR ++ [.int .i64 e, .int .i64 n] := by simp [encR]
      have hpl := flat_len pre
      have hcells : ∀ (bx : Bx) {cs : List Value} {off : Nat}, (∀ j u, cs[j]? = some u → (pre.flatMap encR ++ [.int .i64 e, .int .i64 n])[off + j]? = some u) → RdW ⟨w, kys [] []⟩ bx [Seg.row (some g2) 129 2 (pre.length + 1) cap' (pre.flatMap encR ++ [.int .i64 e, .int .i64 n])] g2 off cs := fun bx {cs off} h => RdW.row (j := 0) rfl h
      have hnle : n ≤ 1048576 := by
        have := rle_mem (diffs 0 (xs.take i)) (e, n) (by rw [← hrs]; simp)
        rw [diffs_len, List.length_take] at this; omega
      rw [hsz, hfl]
      have c0 : ∀ {bx : Bx}, RdW ⟨w, kys [] []⟩ bx [Seg.row (some g2) 129 2 (pre.length + 1) cap' (pre.flatMap encR ++ [.int .i64 e, .int .i64 n])] g2 (0 + ((((pre.length + 1 : Nat) : Int) - 1).toNat) * 2 + (0 : Int).toNat * 1) [.int .i64 e] := fun {bx} => hcells bx (fun j u hu => by
        match j, hu with
        | 0, hu => rw [show (0 + ((((pre.length + 1 : Nat) : Int) - 1).toNat) * 2 + (0 : Int).toNat * 1 + 0) = (pre.flatMap encR).length by rw [hpl]; omega, List.getElem?_append_right (by omega)]; simpa using hu)
      have c1 : ∀ {bx : Bx}, RdW ⟨w, kys [] []⟩ bx [Seg.row (some g2) 129 2 (pre.length + 1) cap' (pre.flatMap encR ++ [.int .i64 e, .int .i64 n])] g2 (0 + ((((pre.length + 1 : Nat) : Int) - 1).toNat) * 2 + (1 : Int).toNat * 1) [.int .i64 n] := fun {bx} => hcells bx (fun j u hu => by
        match j, hu with
        | 0, hu => rw [show (0 + ((((pre.length + 1 : Nat) : Int) - 1).toNat) * 2 + (1 : Int).toNat * 1 + 0) = (pre.flatMap encR).length + 1 by rw [hpl]; simp, List.getElem?_append_right (by omega)]; simpa using hu)
      have hadd : ∀ d, addR (pre ++ [(e, n)]) d = if e = d then pre ++ [(d, n + 1)] else (pre ++ [(e, n)]) ++ [(d, 1)] := fun d => by simp [addR]
      have hw1 : IntKind.i64.wrap (((pre.length + 1 : Nat) : Int) - 1) = ((pre.length + 1 : Nat) : Int) - 1 := wrap_in64 (by simp only [inK]; omega)
      refine At.run 24 false [true] [hR [.int .i64 x], hR [.int .i64 x]] rfl (by (repeat' apply And.intro) <;> first | exact r1 | exact True.intro | omega | rfl | (simp only [inK]; omega) | exact decide_eq_true (by omega) | exact decide_eq_false (by omega) | (simp; done) | (simp; omega) | (simp [Value.oneCell']; done) | exact i64s_one _ | exact AggOk.mk (by kernel_rfl) (by kernel_rfl)) ?_
      rw [hw1]
      generalize hd : IntKind.i64.wrap (x - ah) = d at *
      by_cases hed : e = d
      · subst hed
        refine At.run 100 true [true, true] [hR [.int .i64 e]] rfl (by (repeat' apply And.intro) <;> first | exact c0 | simp; done | exact True.intro | omega | rfl | (simp only [inK]; omega) | exact decide_eq_true (by omega) | exact decide_eq_false (by omega) | (simp; done) | (simp; omega) | (simp [Value.oneCell']; done) | exact i64s_one _ | exact AggOk.mk (by kernel_rfl) (by kernel_rfl)) ?_
        refine At.draw 9 rfl rfl rfl rfl ?_
        refine AtD.pures (ob := True) true (by kernel_rfl) [0, 1, 2, 3, 6] (fuel := 4) (by kernel_rfl) rfl (by (repeat' apply And.intro) <;> first | exact True.intro | omega | (simp only [inK]; omega) | (simp; done) | (simp; omega) | exact decide_eq_true (by omega) | exact decide_eq_false (by omega) | rfl | (simp [Value.oneCell']; done) | exact i64s_one _ | exact AggOk.mk (by kernel_rfl) (by kernel_rfl)) ?_
        refine AtD.fork1 4 (by kernel_rfl) (StepD.by [] rfl rfl rfl rfl trivial (OpOk.one true [] [hR [.int .i64 n]] rfl c1 ?_))
        refine AtD.pures (ob := True) true (by kernel_rfl) [5, 7] (fuel := 1) (by kernel_rfl) rfl (by (repeat' apply And.intro) <;> first | exact True.intro | omega | (simp only [inK]; omega) | (simp; done) | (simp; omega) | exact decide_eq_true (by omega) | exact decide_eq_false (by omega) | rfl | (simp [Value.oneCell']; done) | exact i64s_one _ | exact AggOk.mk (by kernel_rfl) (by kernel_rfl)) ?_
        refine AtD.fork1 8 (by kernel_rfl) (StepD.by0 [] rfl rfl rfl trivial (OpOk.storeRow 0 rfl rfl rfl rfl (by simp [Value.oneCell']) (by simp [Value.oneCell']) rfl (by simp [hpl]) ?_))
        refine AtD.done (by kernel_rfl) ?_
        refine At.run 100 true [] [] rfl (by (repeat' apply And.intro) <;> first | exact True.intro | omega | (simp only [inK]; omega) | (simp; done) | (simp; omega) | exact decide_eq_true (by omega) | exact decide_eq_false (by omega) | rfl | (simp [Value.oneCell']; done) | exact i64s_one _ | exact AggOk.mk (by kernel_rfl) (by kernel_rfl)) ?_
        refine At.weak (ih (xs.length - (i + 1)) _ _ _ (by omega) ⟨i + 1, pre ++ [(e, n + 1)], some g2, cap', rfl, by omega, by rw [hnext, hadd, if_pos rfl], rfl, rfl, ?_⟩) ⟨rfl, some_sv_eq (by simp), some_int_eq hlast.symm, some_int_eq (by omega), trivial⟩
        have e1 : (0 + (((pre.length + 1 : Nat) : Int) - 1).toNat * 2 + (1 : Int).toNat * 1) = (pre.flatMap encR).length + 1 := by rw [hpl]; simp
        simp only [setL]
        have e2 := setL_at (pre.flatMap encR) (.int .i64 e) (.int .i64 n) (.int .i64 ((n : Int) + 1))
        rw [← e1] at e2
        have e3 : (pre ++ [(e, n + 1)]).flatMap encR = pre.flatMap encR ++ [.int .i64 e, .int .i64 ((n : Int) + 1)] := by simp [encR]
        have e4 : (pre ++ [(e, n + 1)]).length = pre.length + 1 := by simp
        rw [e3, e4, ← e2]
      · refine At.run 100 true [true, false] [hR [.int .i64 e]] rfl (by (repeat' apply And.intro) <;> first | exact c0 | exact decide_eq_false hed | exact True.intro | omega | rfl | (simp only [inK]; omega) | exact decide_eq_true (by omega) | exact decide_eq_false (by omega) | (simp; done) | (simp; omega) | (simp [Value.oneCell']; done) | exact i64s_one _ | exact AggOk.mk (by kernel_rfl) (by kernel_rfl)) ?_
        refine At.append1 0 2 16 rfl rfl rfl rfl rfl rfl rfl rfl rfl trivial (fun _ => rfl) trivial rfl rfl rfl rfl rfl rfl rfl rfl (fun _ => rfl) (by simp [Value.oneCell']) (by omega) (by omega) (fun bb a2 cap2 => ?_)
        refine At.run 100 true [] [] rfl (by (repeat' apply And.intro) <;> first | exact True.intro | omega | (simp only [inK]; omega) | (simp; done) | (simp; omega) | exact decide_eq_true (by omega) | exact decide_eq_false (by omega) | rfl | (simp [Value.oneCell']; done) | exact i64s_one _ | exact AggOk.mk (by kernel_rfl) (by kernel_rfl)) ?_
        refine At.weak (ih (xs.length - (i + 1)) _ _ _ (by omega) ⟨i + 1, (pre ++ [(e, n)]) ++ [(d, 1)], a2, cap2, rfl, by omega, by rw [hnext, hadd, if_neg hed], rfl, rfl, ?_⟩) ⟨rfl, some_sv_eq (by simp), some_int_eq hlast.symm, some_int_eq (by omega), trivial⟩
        simp [setL, encR]
  · have : i = xs.length := by omega
    subst this
    rw [List.take_length] at hrs
    refine At.run 100 true [false] [] rfl (by (repeat' apply And.intro) <;> first | exact True.intro | omega | (simp only [inK]; omega) | (simp; done) | (simp; omega) | exact decide_eq_true (by omega) | exact decide_eq_false (by omega) | rfl | (simp [Value.oneCell']; done) | exact i64s_one _ | exact AggOk.mk (by kernel_rfl) (by kernel_rfl)) ?_
    exact At.ret [] rfl Tryz.func89 rfl trivial ⟨a', cap', by rw [← hrs]; rfl, rfl, by rw [← hrs]⟩

theorem encR_cells {rs : List (Int × Nat)} {i off : Nat} {d : Int} {n : Nat} (hx : rs[i]? = some (d, n)) (ho : off = 2 * i) : ∀ (j : Nat) (u : Value), ([.int .i64 d, .int .i64 n] : List Value)[j]? = some u → (rs.flatMap encR)[off + j]? = some u := by
  intro k v hv
  subst ho
  have hlt := lt_of_get hx
  have e : rs = rs.take i ++ (d, n) :: rs.drop (i + 1) := by
    conv => lhs; rw [← List.take_append_drop i rs, List.drop_eq_getElem_cons hlt]
    congr 2; exact (List.getElem?_eq_some_iff.1 hx).2
  have hk : k < 2 := by have := lt_of_get hv; simpa using this
  have hl := flat_len (rs.take i)
  rw [List.length_take] at hl
  rw [e, List.flatMap_append, List.getElem?_append_right (by omega), List.flatMap_cons, List.getElem?_append_left (by show _ < 2; omega), ← hv]
  show ([.int .i64 d, .int .i64 n] : List Value)[_]? = _
  congr 1; omega

/-- The reference's bytes of a column. -/
theorem Tryz.rPut_w (xs : List Int) (a : Option Addr) (cap : Nat) (w : World) (hlen : xs.length ≤ 65536) (hrow : SlOk w a (i64s xs)) :
    Fun Tryz.prog 36 [.slice a xs.length cap] w (str (colL xs)) := by
  refine Tri.enter (bx := []) (hp := []) Tryz.func36 rfl (by kernel_rfl) rfl (Own.nil w) ?_
  refine At.run 100 true [] [] rfl trivial ?_
  refine At.step [] rfl rfl rfl rfl rfl trivial (OpOk.call rfl (fun w' hw' => Tryz.rRuns_w xs a cap w' (by omega) (hrow.ext hw'.ext (by simp [kys]))) ?_)
  rintro v bx' hp' ⟨a', cap', rfl, rfl, rfl⟩
  have h64 : xs.length < 18446744073709551616 := by omega
  refine At.run 100 true [] [hC (str (numL xs.length))] rfl (by (repeat' apply And.intro) <;> first | exact fun w' _ => Tryz.rnum_w _ h64 w' | exact True.intro | omega | rfl | (simp only [inK]; omega) | exact decide_eq_true (by omega) | exact decide_eq_false (by omega) | (simp; done) | (simp; omega) | (simp [Value.oneCell']; done) | exact i64s_one _ | exact AggOk.mk (by kernel_rfl) (by kernel_rfl)) ?_
  have hmem : ∀ x, x ∈ rle (diffs 0 xs) → inK .i64 x.1 ∧ x.2 ≤ xs.length := by
    intro x hx
    have := rle_mem _ x hx
    rw [diffs_len] at this
    exact ⟨diffs_in _ _ _ this.1, this.2.2⟩
  have hrl := rle_len (diffs 0 xs)
  rw [diffs_len] at hrl
  have hcol : colL xs = numL xs.length ++ (rle (diffs 0 xs)).flatMap runB := rfl
  rw [hcol]
  generalize rle (diffs 0 xs) = rs at *
  refine At.loop (n := rs.length) (env0 := [(3, sv a' rs.length cap'), (4, str (numL xs.length)), (5, .int .i64 0)]) (fun m env bx hp => ∃ i : Nat, m = rs.length - i ∧ i ≤ rs.length ∧
    env = [(3, sv a' rs.length cap'), (4, str (numL xs.length ++ (rs.take i).flatMap runB)), (5, .int .i64 i)] ∧ bx = [] ∧ hp = [Seg.row a' 129 2 rs.length cap' (rs.flatMap encR)]) rfl
    ⟨0, by simp, by omega, by simp, rfl, rfl⟩ ⟨rfl, rfl, rfl, trivial⟩ ?_
  rintro m env bx hp ⟨i, rfl, hi, rfl, rfl, rfl⟩ ih
  by_cases hlt : i < rs.length
  · refine At.run 100 true [true] [] rfl (by (repeat' apply And.intro) <;> first | exact True.intro | omega | (simp only [inK]; omega) | (simp; done) | (simp; omega) | exact decide_eq_true (by omega) | exact decide_eq_false (by omega) | rfl | (simp [Value.oneCell']; done) | exact i64s_one _ | exact AggOk.mk (by kernel_rfl) (by kernel_rfl)) ?_
    refine At.rowSome 0 rfl (by omega) (fun g hg => ?_)
    subst hg
    obtain ⟨⟨d, n⟩, hx⟩ : ∃ x, rs[i]? = some x := ⟨_, List.getElem?_eq_getElem hlt⟩
    have hm := hmem _ (List.mem_of_getElem? hx)
    simp only at hm
    have hcell : ∀ (k : Nat) (v : Value), (encR (d, n))[k]? = some v → (rs.flatMap encR)[2 * i + k]? = some v := by
      intro k v hv
      have e : rs = rs.take i ++ (d, n) :: rs.drop (i + 1) := by
        conv => lhs; rw [← List.take_append_drop i rs, List.drop_eq_getElem_cons hlt]
        congr 2; exact (List.getElem?_eq_some_iff.1 hx).2
      have hk : k < 2 := by have := lt_of_get hv; simpa [encR] using this
      have hl := flat_len (rs.take i)
      rw [List.length_take] at hl
      rw [e, List.flatMap_append, List.getElem?_append_right (by omega), List.flatMap_cons, List.getElem?_append_left (by show _ < 2; omega), ← hv]
      congr 1; omega
    have r0 : ∀ {bx : Bx}, RdW ⟨w, kys [] []⟩ bx [Seg.row (some g) 129 2 rs.length cap' (rs.flatMap encR)] g (0 + (i : Int).toNat * 2 + (0 : Int).toNat * 1) [.int .i64 d] := fun {bx} => RdW.row (j := 0) rfl (fun j u hu => by
      match j, hu with
      | 0, hu => rw [show (0 + (i : Int).toNat * 2 + (0 : Int).toNat * 1 + 0) = 2 * i + 0 by simp; omega]; simp at hu; subst hu; exact hcell 0 _ rfl)
    have r1 : ∀ {bx : Bx}, RdW ⟨w, kys [] []⟩ bx [Seg.row (some g) 129 2 rs.length cap' (rs.flatMap encR)] g (0 + (i : Int).toNat * 2 + (1 : Int).toNat * 1) [.int .i64 n] := fun {bx} => RdW.row (j := 0) rfl (fun j u hu => by
      match j, hu with
      | 0, hu => rw [show (0 + (i : Int).toNat * 2 + (1 : Int).toNat * 1 + 0) = 2 * i + 1 by simp; omega]; simp at hu; subst hu; exact hcell 1 _ rfl)
    have hn64 : n < 18446744073709551616 := by omega
    have l1 := numL_len10 _ (zig_lt hm.1)
    have l2 := numL_len10 n hn64
    have l3 := numL_len10 _ h64
    have l4 := runs_len (rs.take i) (fun x hx => runB_len (hmem x (List.mem_of_mem_take hx)).1 (by have := (hmem x (List.mem_of_mem_take hx)).2; omega))
    have l5 : (rs.take i).length ≤ 65536 := by rw [List.length_take]; omega
    refine At.quiet true [] [hR [.int .i64 d], hC (str (numL (zig d))), hR [.int .i64 n], hC (str (numL n))] ⟨by kernel_rfl, by kernel_rfl, rfl, rfl, rfl⟩ rfl rfl rfl
      (by (repeat' apply And.intro) <;> first | exact r0 | exact r1 | exact fun w' _ => Tryz.rint_w d hm.1 w' | exact fun w' _ => Tryz.rnum_w n hn64 w' | (simp only [bl_str, List.length_append]; omega) | exact True.intro | omega | rfl | (simp only [inK]; omega) | exact decide_eq_true (by omega) | exact decide_eq_false (by omega) | (simp; done) | (simp; omega) | (simp [Value.oneCell']; done) | exact i64s_one _ | exact AggOk.mk (by kernel_rfl) (by kernel_rfl)) ?_
    refine At.run 100 true [] [] rfl (by (repeat' apply And.intro) <;> first | exact True.intro | omega | (simp only [inK]; omega) | (simp; done) | (simp; omega) | exact decide_eq_true (by omega) | exact decide_eq_false (by omega) | rfl | (simp [Value.oneCell']; done) | exact i64s_one _ | exact AggOk.mk (by kernel_rfl) (by kernel_rfl)) ?_
    refine At.weak (ih (rs.length - (i + 1)) _ _ _ (by omega) ⟨i + 1, rfl, by omega, rfl, rfl, rfl⟩) ⟨rfl, ?_, some_int_eq (by omega), trivial⟩
    rw [take_succ_get hx]
    simp only [bl_str, List.flatMap_append, List.flatMap_singleton, runB, List.append_assoc]
    rfl
  · have : i = rs.length := by omega
    subst this
    refine At.run 100 true [false] [] rfl (by (repeat' apply And.intro) <;> first | exact True.intro | omega | (simp only [inK]; omega) | (simp; done) | (simp; omega) | exact decide_eq_true (by omega) | exact decide_eq_false (by omega) | rfl | (simp [Value.oneCell']; done) | exact i64s_one _ | exact AggOk.mk (by kernel_rfl) (by kernel_rfl)) ?_
    refine At.keep [] [] rfl ?_
    exact At.ret [] rfl Tryz.func36 rfl trivial ⟨by rw [List.take_length]; rfl, rfl, rfl⟩


/-- The reference's column of bytes. -/
theorem Tryz.rGet_w (s : ByteArray) (most : Nat) (w : World) (hm : most ≤ 65536) (hlen : (bl s).length ≤ 9223372036854775807) :
    Tri Tryz.prog 39 [.string s, .int .i64 most] w [] (fun v bx hp => ∃ a cap, v = .tuple #[sv a (colG (bl s) most).1.length cap, .int .i64 (colG (bl s) most).2.1, .int .i64 (colG (bl s) most).2.2] ∧ bx = [] ∧
      hp = [Seg.row a 2 1 (colG (bl s) most).1.length cap (i64s (colG (bl s) most).1)]) := by
  refine Tri.enter (bx := []) (hp := []) Tryz.func39 rfl (by kernel_rfl) rfl (Own.nil w) ?_
  refine At.run 100 true [] [] rfl trivial ?_
  refine At.step [] rfl rfl rfl rfl rfl trivial (OpOk.call rfl (fun w' hw' => Tryz.rOf_w s w') ?_)
  rintro v bx' hp' ⟨b, rfl, rfl, rfl⟩
  have hN0 := rdN_lt (bl s) 0 0 most
  have hE0 := rdN_e (bl s) 0 0 most (by omega)
  have hA0 := rdN_a (l := bl s) (a := 0) (f := 0) (most := most) (by omega)
  have hk0 := @rdN_k0 (bl s) 0 0 most
  have hcg : colG (bl s) most = if (rdN (bl s) 0 0 most).2.2 ≠ 0 then ([], 0, (rdN (bl s) 0 0 most).2.2) else colLoop (bl s) (rdN (bl s) 0 0 most).1 (rdN (bl s) 0 0 most).2.1 (rdN (bl s) 0 0 most).1 none 0 [] := rfl
  have hc0 : CallU Tryz.prog ⟨w, kys [] []⟩ [(b, 84, rdr s 0 0)] [] 38 [.pointer (some ⟨b, 0, none⟩), .int .u64 most] (.int .u64 (rdN (bl s) 0 0 most).1) (b, 84, rdr s (rdN (bl s) 0 0 most).2.1 (rdN (bl s) 0 0 most).2.2) :=
    fun w' hw' => Tryz.rNum_w s 0 0 b most w' (by omega) hlen (Own.head hw'.toOwn)
  obtain ⟨n0, a0, f0, hR0⟩ : ∃ n a f, rdN (bl s) 0 0 most = (n, a, f) := ⟨_, _, _, rfl⟩
  simp only [hR0] at hN0 hE0 hA0 hcg hc0 hk0
  refine At.run 100 true [] [hU (.int .u64 n0) 0 (rdr s a0 f0)] rfl (by (repeat' apply And.intro) <;> first | exact hc0 | exact True.intro | omega | rfl | (simp only [inK]; omega) | exact decide_eq_true (by omega) | exact decide_eq_false (by omega) | (simp; done) | (simp; omega) | (simp [Value.oneCell']; done) | exact i64s_one _ | exact AggOk.mk (by kernel_rfl) (by kernel_rfl)) ?_
  refine At.nilRow 2 1 ?_
  refine At.loop (n := n0) (env0 := [(0, .string s), (7, .pointer (some ⟨b, 0, none⟩)), (8, .int .i64 n0), (9, sv none 0 0), (10, .int .i64 0), (11, .int .i64 0)])
    (fun fuel env bx hp => ∃ (a lack : Nat) (f last was : Int) (out : List Int) (aa : Option Nat) (cap : Nat), lack ≤ fuel ∧ a ≤ (bl s).length ∧ out.length + lack = n0 ∧
      ((f = 0 ∧ (fuel ≠ n0 → out ≠ []) ∧ colG (bl s) most = colLoop (bl s) fuel a lack (if out = [] then none else some was) last out) ∨ (f ≠ 0 ∧ lack = 0 ∧ colG (bl s) most = ([], 0, f))) ∧
      env = [(0, .string s), (7, .pointer (some ⟨b, 0, none⟩)), (8, .int .i64 n0), (9, sv aa out.length cap), (10, .int .i64 last), (11, .int .i64 was)] ∧
      bx = [(b, 84, rdr s a f)] ∧ hp = [Seg.row aa 2 1 out.length cap (i64s out)]) rfl
    ⟨a0, n0, f0, 0, 0, [], none, 0, Nat.le_refl _, hA0.2, by simp, ?_, rfl, rfl, rfl⟩ ⟨rfl, rfl, rfl, rfl, rfl, rfl, trivial⟩ ?_
  · by_cases hf : f0 = 0
    · left; refine ⟨hf, fun h => (h rfl).elim, ?_⟩
      rw [hcg, if_neg (by simpa using hf)]; rfl
    · right; exact ⟨hf, hk0 hf, by rw [hcg, if_pos hf]⟩
  clear hcg hc0 hk0
  rintro fuel env bx hp ⟨a, lack, f, last, was, out, aa, cap, hfuel, ha, hsum, hst, rfl, rfl, rfl⟩ ih
  have hlen0 : ∀ {bx : Bx} {hp : List Seg}, ((out.length : Int) ≤ n0) := fun {_ _} => by omega
  by_cases hlk : 0 < lack
  · have hf : f = 0 := by rcases hst with h | h; exact h.1; omega
    subst hf
    have hst' : (fuel ≠ n0 → out ≠ []) ∧ colG (bl s) most = colLoop (bl s) fuel a lack (if out = [] then none else some was) last out := by rcases hst with h | h; exact h.2; exact (h.1 rfl).elim
    obtain ⟨hnee, hcl⟩ := hst'
    clear hst
    obtain ⟨fuel', rfl⟩ : ∃ g, fuel = g + 1 := ⟨fuel - 1, by omega⟩
    rw [colLoop, if_neg (by omega)] at hcl
    have hI := rdI_in (bl s) a 0
    have hIa := rdI_a (l := bl s) (a := a) (f := 0) ha
    obtain ⟨d, a1, f1, hR1⟩ : ∃ d a1 f1, rdI (bl s) a 0 = (d, a1, f1) := ⟨_, _, _, rfl⟩
    have hIe := rdI_e (bl s) a 0 (by omega)
    simp only [hR1] at hI hIa hcl hIe
    have hN2 := rdN_lt (bl s) a1 f1 lack
    have ha2 := rdN_a (l := bl s) (a := a1) (f := f1) (most := lack) hIa.2
    have hNe := rdN_e (bl s) a1 f1 lack hIe
    have hk0 := @rdN_k0 (bl s) a1 f1 lack
    obtain ⟨k, a2, f2, hR2⟩ : ∃ k a2 f2, rdN (bl s) a1 f1 lack = (k, a2, f2) := ⟨_, _, _, rfl⟩
    simp only [hR2] at hN2 ha2 hNe hcl hk0
    have hcI : ∀ {hp : List Seg}, CallU Tryz.prog ⟨w, kys [] []⟩ [(b, 84, rdr s a 0)] hp 92 [.pointer (some ⟨b, 0, none⟩)] (.int .i64 d) (b, 84, rdr s a1 f1) :=
      fun {_} w' hw' => by have := Tryz.rInt_w s a 0 b w' ha hlen (Own.head hw'.toOwn); rw [hR1] at this; exact this
    have hcN : ∀ {hp : List Seg}, CallU Tryz.prog ⟨w, kys [] []⟩ [(b, 84, rdr s a1 f1)] hp 38 [.pointer (some ⟨b, 0, none⟩), .int .u64 ((n0 : Int) - (out.length : Int))] (.int .u64 k) (b, 84, rdr s a2 f2) :=
      fun {_} w' hw' => by
        rw [show (n0 : Int) - (out.length : Int) = (lack : Int) by omega]
        have := Tryz.rNum_w s a1 f1 b lack w' hIa.2 hlen (Own.head hw'.toOwn); rw [hR2] at this; exact this
    refine At.run 100 true [true, true] [hB 0, hU (.int .i64 d) 0 (rdr s a1 f1), hU (.int .u64 k) 0 (rdr s a2 f2), hB 0] rfl (by (repeat' apply And.intro) <;> first | exact hcI | exact hcN | exact True.intro | omega | rfl | (simp only [inK]; omega) | exact decide_eq_true (by omega) | exact decide_eq_false (by omega) | (simp; done) | (simp; omega) | (simp [Value.oneCell']; done) | exact i64s_one _ | exact AggOk.mk (by kernel_rfl) (by kernel_rfl)) ?_
    by_cases hf2 : f2 = 0
    · subst hf2
      rw [if_neg (by simp)] at hcl
      refine At.run 100 true [false] [] rfl (by (repeat' apply And.intro) <;> first | exact True.intro | omega | (simp only [inK]; omega) | (simp; done) | (simp; omega) | exact decide_eq_true (by omega) | exact decide_eq_false (by omega) | rfl | (simp [Value.oneCell']; done) | exact i64s_one _ | exact AggOk.mk (by kernel_rfl) (by kernel_rfl)) ?_
      by_cases hkz : k = 0
      · have hu : colG (bl s) most = ([], 0, 3) := by rw [hcl]; simp [hkz]
        refine At.run 100 true [true, true] [] rfl (by (repeat' apply And.intro) <;> first | exact True.intro | omega | (simp only [inK]; omega) | (simp; done) | (simp; omega) | exact decide_eq_true (by omega) | exact decide_eq_false (by omega) | rfl | (simp [Value.oneCell']; done) | exact i64s_one _ | exact AggOk.mk (by kernel_rfl) (by kernel_rfl)) ?_
        refine At.run 100 true [] [] rfl trivial ?_
        refine At.keep [] [] rfl ?_
        refine At.nilRow 2 1 ?_
        exact At.ret [] rfl Tryz.func39 rfl trivial ⟨none, 0, by rw [hu]; rfl, rfl, by rw [hu]; rfl⟩
      · have hnn : out ++ stepsL last d k ≠ [] := fun e => by
          have := congrArg List.length e
          rw [List.length_append, stepsL_len] at this; simp at this; omega
        by_cases ho : out = []
        · have hol : out.length = 0 := by rw [ho]; rfl
          have hu := hcl
          rw [if_neg (by simp [hkz, ho])] at hu
          refine At.run 100 true [false, false, false] [] rfl (by (repeat' apply And.intro) <;> first | exact True.intro | omega | (simp only [inK]; omega) | (simp; done) | (simp; omega) | exact decide_eq_true (by omega) | exact decide_eq_false (by omega) | rfl | (simp [Value.oneCell']; done) | exact i64s_one _ | exact AggOk.mk (by kernel_rfl) (by kernel_rfl)) ?_
          refine At.loop (n := k) (env0 := [(0, .string s), (7, .pointer (some ⟨b, 0, none⟩)), (8, .int .i64 n0), (9, sv aa out.length cap), (10, .int .i64 last), (13, .int .i64 d), (14, .int .i64 k), (15, .int .i64 0)])
            (fun m env bx hp => ∃ (i : Nat) (a' : Option Nat) (cap' : Nat), m = k - i ∧ i ≤ k ∧ env = [(0, .string s), (7, .pointer (some ⟨b, 0, none⟩)), (8, .int .i64 n0), (9, sv a' (out ++ stepsL last d i).length cap'), (10, .int .i64 (stepsE last d i)), (13, .int .i64 d), (14, .int .i64 k), (15, .int .i64 i)] ∧
              bx = [(b, 84, rdr s a2 0)] ∧ hp = [Seg.row a' 2 1 (out ++ stepsL last d i).length cap' (i64s (out ++ stepsL last d i))]) rfl
            ⟨0, aa, cap, by simp, by omega, by simp [stepsE, stepsL], rfl, by simp [stepsL]⟩ ⟨rfl, rfl, rfl, rfl, rfl, rfl, rfl, rfl, trivial⟩ ?_
          rintro m env bx hp ⟨i, a', cap', rfl, hi, rfl, rfl, rfl⟩ ih2
          by_cases hlt : i < k
          · have hsl := stepsL_len last d i
            have hol : (out ++ stepsL last d i).length = out.length + i := by simp [hsl]
            refine At.run 100 false [true] [] rfl (by (repeat' apply And.intro) <;> first | exact True.intro | omega | (simp only [inK]; omega) | (simp; done) | (simp; omega) | exact decide_eq_true (by omega) | exact decide_eq_false (by omega) | rfl | (simp [Value.oneCell']; done) | exact i64s_one _ | exact AggOk.mk (by kernel_rfl) (by kernel_rfl)) ?_
            refine At.append1 0 1 8 rfl rfl rfl rfl rfl rfl rfl rfl rfl trivial (fun _ => rfl) trivial rfl rfl rfl rfl rfl rfl rfl rfl (fun _ => rfl) (by simp [Value.oneCell']) (by omega) (by omega) (fun bb a2 cap2 => ?_)
            refine At.run 100 true [] [] rfl (by (repeat' apply And.intro) <;> first | exact True.intro | omega | (simp only [inK]; omega) | (simp; done) | (simp; omega) | exact decide_eq_true (by omega) | exact decide_eq_false (by omega) | rfl | (simp [Value.oneCell']; done) | exact i64s_one _ | exact AggOk.mk (by kernel_rfl) (by kernel_rfl)) ?_
            refine At.weak (ih2 (k - (i + 1)) _ _ _ (by omega) ⟨i + 1, a2, cap2, rfl, by omega, rfl, rfl, ?_⟩) ⟨rfl, rfl, rfl, some_sv_eq (by rw [stepsL_snoc]; simp [Nat.add_assoc]), some_int_eq (stepsE_snoc ..).symm, rfl, rfl, some_int_eq (by omega), trivial⟩
            rw [stepsL_snoc]; simp [setL, i64s, Nat.add_assoc]
          · have : i = k := by omega
            subst this
            refine At.run 100 true [false] [] rfl (by (repeat' apply And.intro) <;> first | exact True.intro | omega | (simp only [inK]; omega) | (simp; done) | (simp; omega) | exact decide_eq_true (by omega) | exact decide_eq_false (by omega) | rfl | (simp [Value.oneCell']; done) | exact i64s_one _ | exact AggOk.mk (by kernel_rfl) (by kernel_rfl)) ?_
            refine At.weak (ih fuel' _ _ _ (by omega) ⟨a2, lack - i, 0, stepsE last d i, d, out ++ stepsL last d i, a', cap', by omega, ha2.2, by rw [List.length_append, stepsL_len]; omega, .inl ⟨rfl, fun _ => hnn, by rw [if_neg hnn]; exact hu⟩, rfl, rfl, rfl⟩) ⟨rfl, rfl, rfl, rfl, rfl, rfl, trivial⟩
        · have hol : 0 < out.length := List.length_pos_iff.2 ho
          by_cases hdw : d = was
          · have hu : colG (bl s) most = ([], 0, 3) := by rw [hcl]; simp [ho, hdw]
            refine At.run 100 true [false, true, true] [] rfl (by (repeat' apply And.intro) <;> first | exact True.intro | omega | (simp only [inK]; omega) | (simp; done) | (simp; omega) | exact decide_eq_true (by omega) | exact decide_eq_false (by omega) | rfl | (simp [Value.oneCell']; done) | exact i64s_one _ | exact AggOk.mk (by kernel_rfl) (by kernel_rfl)) ?_
            refine At.run 100 true [] [] rfl trivial ?_
            refine At.keep [] [] rfl ?_
            refine At.nilRow 2 1 ?_
            exact At.ret [] rfl Tryz.func39 rfl trivial ⟨none, 0, by rw [hu]; rfl, rfl, by rw [hu]; rfl⟩
          · have hu := hcl
            rw [if_neg (by simp [hkz, ho]; exact fun e => hdw e.symm)] at hu
            refine At.run 100 true [false, true, false] [] rfl (by (repeat' apply And.intro) <;> first | exact True.intro | omega | (simp only [inK]; omega) | (simp; done) | (simp; omega) | exact decide_eq_true (by omega) | exact decide_eq_false (by omega) | rfl | (simp [Value.oneCell']; done) | exact i64s_one _ | exact AggOk.mk (by kernel_rfl) (by kernel_rfl)) ?_
            refine At.loop (n := k) (env0 := [(0, .string s), (7, .pointer (some ⟨b, 0, none⟩)), (8, .int .i64 n0), (9, sv aa out.length cap), (10, .int .i64 last), (13, .int .i64 d), (14, .int .i64 k), (15, .int .i64 0)])
              (fun m env bx hp => ∃ (i : Nat) (a' : Option Nat) (cap' : Nat), m = k - i ∧ i ≤ k ∧ env = [(0, .string s), (7, .pointer (some ⟨b, 0, none⟩)), (8, .int .i64 n0), (9, sv a' (out ++ stepsL last d i).length cap'), (10, .int .i64 (stepsE last d i)), (13, .int .i64 d), (14, .int .i64 k), (15, .int .i64 i)] ∧
                bx = [(b, 84, rdr s a2 0)] ∧ hp = [Seg.row a' 2 1 (out ++ stepsL last d i).length cap' (i64s (out ++ stepsL last d i))]) rfl
              ⟨0, aa, cap, by simp, by omega, by simp [stepsE, stepsL], rfl, by simp [stepsL]⟩ ⟨rfl, rfl, rfl, rfl, rfl, rfl, rfl, rfl, trivial⟩ ?_
            rintro m env bx hp ⟨i, a', cap', rfl, hi, rfl, rfl, rfl⟩ ih2
            by_cases hlt : i < k
            · have hsl := stepsL_len last d i
              have hol : (out ++ stepsL last d i).length = out.length + i := by simp [hsl]
              refine At.run 100 false [true] [] rfl (by (repeat' apply And.intro) <;> first | exact True.intro | omega | (simp only [inK]; omega) | (simp; done) | (simp; omega) | exact decide_eq_true (by omega) | exact decide_eq_false (by omega) | rfl | (simp [Value.oneCell']; done) | exact i64s_one _ | exact AggOk.mk (by kernel_rfl) (by kernel_rfl)) ?_
              refine At.append1 0 1 8 rfl rfl rfl rfl rfl rfl rfl rfl rfl trivial (fun _ => rfl) trivial rfl rfl rfl rfl rfl rfl rfl rfl (fun _ => rfl) (by simp [Value.oneCell']) (by omega) (by omega) (fun bb a2 cap2 => ?_)
              refine At.run 100 true [] [] rfl (by (repeat' apply And.intro) <;> first | exact True.intro | omega | (simp only [inK]; omega) | (simp; done) | (simp; omega) | exact decide_eq_true (by omega) | exact decide_eq_false (by omega) | rfl | (simp [Value.oneCell']; done) | exact i64s_one _ | exact AggOk.mk (by kernel_rfl) (by kernel_rfl)) ?_
              refine At.weak (ih2 (k - (i + 1)) _ _ _ (by omega) ⟨i + 1, a2, cap2, rfl, by omega, rfl, rfl, ?_⟩) ⟨rfl, rfl, rfl, some_sv_eq (by rw [stepsL_snoc]; simp [Nat.add_assoc]), some_int_eq (stepsE_snoc ..).symm, rfl, rfl, some_int_eq (by omega), trivial⟩
              rw [stepsL_snoc]; simp [setL, i64s, Nat.add_assoc]
            · have : i = k := by omega
              subst this
              refine At.run 100 true [false] [] rfl (by (repeat' apply And.intro) <;> first | exact True.intro | omega | (simp only [inK]; omega) | (simp; done) | (simp; omega) | exact decide_eq_true (by omega) | exact decide_eq_false (by omega) | rfl | (simp [Value.oneCell']; done) | exact i64s_one _ | exact AggOk.mk (by kernel_rfl) (by kernel_rfl)) ?_
              refine At.weak (ih fuel' _ _ _ (by omega) ⟨a2, lack - i, 0, stepsE last d i, d, out ++ stepsL last d i, a', cap', by omega, ha2.2, by rw [List.length_append, stepsL_len]; omega, .inl ⟨rfl, fun _ => hnn, by rw [if_neg hnn]; exact hu⟩, rfl, rfl, rfl⟩) ⟨rfl, rfl, rfl, rfl, rfl, rfl, trivial⟩
    · have hu : colG (bl s) most = ([], 0, f2) := by rw [hcl, if_pos hf2]
      refine At.run 100 true [true] [] rfl (by (repeat' apply And.intro) <;> first | simp [hf2]; done | exact True.intro | omega | rfl | (simp only [inK]; omega) | exact decide_eq_true (by omega) | exact decide_eq_false (by omega) | (simp; done) | (simp; omega) | (simp [Value.oneCell']; done) | exact i64s_one _ | exact AggOk.mk (by kernel_rfl) (by kernel_rfl)) ?_
      refine At.quiet true [] [hB 0] ⟨by kernel_rfl, by kernel_rfl, rfl, rfl, rfl⟩ rfl rfl rfl (by (repeat' apply And.intro) <;> first | exact True.intro | omega | (simp only [inK]; omega) | (simp; done) | (simp; omega) | exact decide_eq_true (by omega) | exact decide_eq_false (by omega) | rfl | (simp [Value.oneCell']; done) | exact i64s_one _ | exact AggOk.mk (by kernel_rfl) (by kernel_rfl)) ?_
      refine At.run 100 true [] [] rfl trivial ?_
      refine At.keep [] [] rfl ?_
      refine At.nilRow 2 1 ?_
      exact At.ret [] rfl Tryz.func39 rfl trivial ⟨none, 0, by rw [hu]; rfl, rfl, by rw [hu]; rfl⟩
  · have hl0 : lack = 0 := by omega
    subst hl0
    refine At.run 100 true [false, false] [] rfl (by (repeat' apply And.intro) <;> first | exact True.intro | omega | (simp only [inK]; omega) | (simp; done) | (simp; omega) | exact decide_eq_true (by omega) | exact decide_eq_false (by omega) | rfl | (simp [Value.oneCell']; done) | exact i64s_one _ | exact AggOk.mk (by kernel_rfl) (by kernel_rfl)) ?_
    rcases hst with ⟨rfl, _, hc⟩ | ⟨hf, _, hu⟩
    · have hG : colG (bl s) most = (out, a, 0) := by rw [hc, colLoop_zero]
      refine At.run 100 true [false] [hB 0] rfl (by (repeat' apply And.intro) <;> first | exact True.intro | omega | (simp only [inK]; omega) | (simp; done) | (simp; omega) | exact decide_eq_true (by omega) | exact decide_eq_false (by omega) | rfl | (simp [Value.oneCell']; done) | exact i64s_one _ | exact AggOk.mk (by kernel_rfl) (by kernel_rfl)) ?_
      refine At.quiet true [] [hB 0] ⟨by kernel_rfl, by kernel_rfl, rfl, rfl, rfl⟩ rfl rfl rfl (by (repeat' apply And.intro) <;> first | exact True.intro | omega | (simp only [inK]; omega) | (simp; done) | (simp; omega) | exact decide_eq_true (by omega) | exact decide_eq_false (by omega) | rfl | (simp [Value.oneCell']; done) | exact i64s_one _ | exact AggOk.mk (by kernel_rfl) (by kernel_rfl)) ?_
      refine At.run 100 true [] [] rfl trivial ?_
      refine At.keep [] [true] rfl ?_
      exact At.ret [] rfl Tryz.func39 rfl trivial ⟨aa, cap, by rw [hG]; rfl, rfl, by rw [hG]⟩
    · refine At.run 100 true [true] [hB 0] rfl (by (repeat' apply And.intro) <;> first | simp [hf]; done | exact True.intro | omega | rfl | (simp only [inK]; omega) | exact decide_eq_true (by omega) | exact decide_eq_false (by omega) | (simp; done) | (simp; omega) | (simp [Value.oneCell']; done) | exact i64s_one _ | exact AggOk.mk (by kernel_rfl) (by kernel_rfl)) ?_
      refine At.quiet true [] [hB 0] ⟨by kernel_rfl, by kernel_rfl, rfl, rfl, rfl⟩ rfl rfl rfl (by (repeat' apply And.intro) <;> first | exact True.intro | omega | (simp only [inK]; omega) | (simp; done) | (simp; omega) | exact decide_eq_true (by omega) | exact decide_eq_false (by omega) | rfl | (simp [Value.oneCell']; done) | exact i64s_one _ | exact AggOk.mk (by kernel_rfl) (by kernel_rfl)) ?_
      refine At.run 100 true [] [] rfl trivial ?_
      refine At.keep [] [] rfl ?_
      refine At.nilRow 2 1 ?_
      exact At.ret [] rfl Tryz.func39 rfl trivial ⟨none, 0, by rw [hu]; rfl, rfl, by rw [hu]; rfl⟩
end Go.Proofs

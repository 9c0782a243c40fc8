/-
  Walks of layer 13: books got.
-/
import Derived.Test.YtfpoclhenokhhaaGreatP9
import Derived.Test.YtfpoclhenokhhaaGreatW27O
import Derived.Test.YtfpoclhenokhhaaGreatW31H
namespace Go.Proofs
open Go Go.Eng
set_option maxRecDepth 100000
set_option maxHeartbeats 4000000
attribute [local irreducible] Tri

theorem Tryz.opens2_w : SetOk Tryz.prog 56 6 0 68 := by
  intro g n cap off v xs w hl hown
  refine Tri.enter Tryz.func68 rfl (by kernel_rfl) rfl hown ?_
  refine At.run 100 true [] [] rfl trivial ?_
  refine At.step0 [] rfl rfl rfl rfl trivial (OpOk.storeRow 0 rfl rfl rfl rfl (by simp [Value.oneCell']) (by simp [Value.oneCell']) rfl (by simp only [List.length_cons, List.length_nil]; omega) ?_)
  refine At.run 100 true [] [] rfl trivial ?_
  exact At.ret [] rfl Tryz.func68 rfl trivial ⟨rfl, rfl, rfl⟩

theorem Tryz.opens4_w : SetOk Tryz.prog 56 6 1 70 := by
  intro g n cap off v xs w hl hown
  refine Tri.enter Tryz.func70 rfl (by kernel_rfl) rfl hown ?_
  refine At.run 100 true [] [] rfl trivial ?_
  refine At.step0 [] rfl rfl rfl rfl trivial (OpOk.storeRow 0 rfl rfl rfl rfl (by simp [Value.oneCell']) (by simp [Value.oneCell']) rfl (by simp only [List.length_cons, List.length_nil]; omega) ?_)
  refine At.run 100 true [] [] rfl trivial ?_
  exact At.ret [] rfl Tryz.func70 rfl trivial ⟨rfl, rfl, rfl⟩

theorem Tryz.opens6_w : SetOk Tryz.prog 56 6 2 72 := by
  intro g n cap off v xs w hl hown
  refine Tri.enter Tryz.func72 rfl (by kernel_rfl) rfl hown ?_
  refine At.run 100 true [] [] rfl trivial ?_
  refine At.step0 [] rfl rfl rfl rfl trivial (OpOk.storeRow 0 rfl rfl rfl rfl (by simp [Value.oneCell']) (by simp [Value.oneCell']) rfl (by simp only [List.length_cons, List.length_nil]; omega) ?_)
  refine At.run 100 true [] [] rfl trivial ?_
  exact At.ret [] rfl Tryz.func72 rfl trivial ⟨rfl, rfl, rfl⟩

theorem Tryz.opens8_w : SetOk Tryz.prog 56 6 3 74 := by
  intro g n cap off v xs w hl hown
  refine Tri.enter Tryz.func74 rfl (by kernel_rfl) rfl hown ?_
  refine At.run 100 true [] [] rfl trivial ?_
  refine At.step0 [] rfl rfl rfl rfl trivial (OpOk.storeRow 0 rfl rfl rfl rfl (by simp [Value.oneCell']) (by simp [Value.oneCell']) rfl (by simp only [List.length_cons, List.length_nil]; omega) ?_)
  refine At.run 100 true [] [] rfl trivial ?_
  exact At.ret [] rfl Tryz.func74 rfl trivial ⟨rfl, rfl, rfl⟩

theorem Tryz.opens10_w : SetOk Tryz.prog 56 6 4 76 := by
  intro g n cap off v xs w hl hown
  refine Tri.enter Tryz.func76 rfl (by kernel_rfl) rfl hown ?_
  refine At.run 100 true [] [] rfl trivial ?_
  refine At.step0 [] rfl rfl rfl rfl trivial (OpOk.storeRow 0 rfl rfl rfl rfl (by simp [Value.oneCell']) (by simp [Value.oneCell']) rfl (by simp only [List.length_cons, List.length_nil]; omega) ?_)
  refine At.run 100 true [] [] rfl trivial ?_
  exact At.ret [] rfl Tryz.func76 rfl trivial ⟨rfl, rfl, rfl⟩

theorem Tryz.opens12_w : SetOk Tryz.prog 56 6 5 78 := by
  intro g n cap off v xs w hl hown
  refine Tri.enter Tryz.func78 rfl (by kernel_rfl) rfl hown ?_
  refine At.run 100 true [] [] rfl trivial ?_
  refine At.step0 [] rfl rfl rfl rfl trivial (OpOk.storeRow 0 rfl rfl rfl rfl (by simp [Value.oneCell']) (by simp [Value.oneCell']) rfl (by simp only [List.length_cons, List.length_nil]; omega) ?_)
  refine At.run 100 true [] [] rfl trivial ?_
  exact At.ret [] rfl Tryz.func78 rfl trivial ⟨rfl, rfl, rfl⟩

theorem Tryz.opensL_set (i : Nat) (hi : i < 6) : ∃ F G, Tryz.opensL[i * 2]? = some (.func (.func F) ⟨[]⟩ ⟨[]⟩) ∧ Tryz.opensL[i * 2 + 1]? = some (.func (.func G) ⟨[]⟩ ⟨[]⟩) ∧ SetOk Tryz.prog 56 6 i G := by
  match i, hi with
  | 0, _ => exact ⟨_, _, rfl, rfl, Tryz.opens2_w⟩
  | 1, _ => exact ⟨_, _, rfl, rfl, Tryz.opens4_w⟩
  | 2, _ => exact ⟨_, _, rfl, rfl, Tryz.opens6_w⟩
  | 3, _ => exact ⟨_, _, rfl, rfl, Tryz.opens8_w⟩
  | 4, _ => exact ⟨_, _, rfl, rfl, Tryz.opens10_w⟩
  | 5, _ => exact ⟨_, _, rfl, rfl, Tryz.opens12_w⟩

theorem Tryz.snapGetOpen_w (s : List UInt8) (e : Int) (u : Bool) (most gr gf : Nat) (w : World) (hm : most ≤ 65536) (hs : s.length ≤ 9223372036854775807)
    (hf : w.heap[gf]? = some (.cells Tryz.opensL.toArray 114 (0, 0))) (hown : Own [(gr, 72, [str s, .int .i64 e, .bool u])] [] w) (hne : gf ∉ kys [(gr, 72, [str s, .int .i64 e, .bool u])] []) :
    Tri Tryz.prog 32 [.pointer (some ⟨gr, 0, none⟩), .int .i64 most, sv (some gf) 6 6] w (kys [(gr, 72, [str s, .int .i64 e, .bool u])] [])
      (fun v bx hp => ∃ a m xs s' e' u', v = sv a m m ∧ bx = [(gr, 72, [str s', .int .i64 e', .bool u'])] ∧ hp = [Seg.row a 56 6 m m xs] ∧ GetR most 6 s e u m xs s' e' u') := by
  refine Tri.enter Tryz.func32 rfl (by kernel_rfl) rfl hown ?_
  refine At.run 100 true [] [] rfl trivial ?_
  refine At.nilRow 56 6 ?_
  refine At.loop (n := 6) (env0 := [(0, .pointer (some ⟨gr, 0, none⟩)), (1, .int .i64 most), (7, sv none 0 0), (14, .slice (some ⟨gf, 0, none⟩) 6 6), (15, .int .i64 6), (16, .int .i64 0)]) (fun mm env bx hp => ∃ (i m : Nat) (a : Option Nat) (xs : List Value) (s' : List UInt8) (e' : Int) (u' : Bool), mm = 6 - i ∧ i ≤ 6 ∧
    env = [(0, .pointer (some ⟨gr, 0, none⟩)), (1, .int .i64 most), (7, sv a m m), (14, .slice (some ⟨gf, 0, none⟩) 6 6), (15, .int .i64 6), (16, .int .i64 i)] ∧ bx = [(gr, 72, [str s', .int .i64 e', .bool u'])] ∧ hp = [Seg.row a 56 6 m m xs] ∧ GetI most 6 s e u i a m xs s' e' u') rfl
    ⟨0, 0, none, [], s, e, u, rfl, by omega, rfl, rfl, rfl, GetI.zero _ _ _ _ _⟩ ⟨rfl, rfl, rfl, rfl, rfl, rfl, trivial⟩ ?_
  rintro mm env bx hp ⟨i, m, a, xs, s', e', u', rfl, hi, rfl, rfl, rfl, hI⟩ ih
  by_cases hlt : i < 6
  · obtain ⟨F, G, hF, hG, hset⟩ := Tryz.opensL_set i hlt
    have hld : ∀ {bx : Bx} {hp : List Seg}, RdW ⟨w, kys [(gr, 72, [str s, .int .i64 e, .bool u])] []⟩ bx hp gf (0 + (i : Int).toNat * 2) [.func (.func F) ⟨[]⟩ ⟨[]⟩, .func (.func G) ⟨[]⟩ ⟨[]⟩] := fun {_ _} => RdW.blkB hne hf (fun j u hu => by
      match j, hu with
      | 0, hu => simp at hu; subst hu; rw [show 0 + (i : Int).toNat * 2 + 0 = i * 2 by omega]; exact hF
      | 1, hu => simp at hu; subst hu; rw [show 0 + (i : Int).toNat * 2 + 1 = i * 2 + 1 by omega]; exact hG)
    refine At.run 100 true [true] [hR [.func (.func F) ⟨[]⟩ ⟨[]⟩, .func (.func G) ⟨[]⟩ ⟨[]⟩]] rfl (by (repeat' apply And.intro) <;> first | exact hld | exact True.intro | omega | rfl | (simp only [inK]; omega) | exact decide_eq_true (by omega) | exact decide_eq_false (by omega) | (simp; done) | (simp; omega) | (simp [Value.oneCell']; done) | exact i64s_one _ | exact AggOk.mk (by kernel_rfl) (by kernel_rfl)) ?_
    refine At.step [] rfl rfl rfl rfl rfl trivial (OpOk.alloc (cs := [.nilFunc, .nilFunc]) rfl (by kernel_rfl) fun b9 hb9 => ?_)
    by_cases he : e' = 0
    · subst he
      obtain ⟨rfl, cs, hcs, hcl, -, hxs⟩ := hI.ok rfl
      refine At.run 100 true [false] [hB 0, hB 1, hB 1] rfl (by (repeat' apply And.intro) <;> first | exact True.intro | omega | (simp only [inK]; omega) | (simp; done) | (simp; omega) | exact decide_eq_true (by omega) | exact decide_eq_false (by omega) | rfl | (simp [Value.oneCell']; done) | exact i64s_one _ | exact AggOk.mk (by kernel_rfl) (by kernel_rfl)) ?_
      have hcg := fun w' => Tryz.ColGet_w ⟨s'.toArray⟩ most w' hm (by rw [bl_str]; have := hI.slen; omega)
      simp only [bl_str] at hcg
      have hca := colG_a s' most
      have hcln := colG_len s' most
      obtain ⟨c, k, ee, hGc⟩ : ∃ c k ee, colG s' most = (c, k, ee) := ⟨_, _, _, rfl⟩
      rw [hGc] at hcg hca hcln
      simp only at hcg hca hcln
      refine At.step [] rfl rfl rfl rfl rfl trivial (OpOk.call rfl (fun w' _ => hcg w') ?_)
      rintro v bx' hp' ⟨cg, cc, rfl, rfl, rfl⟩
      have hsl := hI.slen
      have hk2 : (k : Int) ≤ ((bl ⟨s'.toArray⟩).length : Int) := by rw [bl_str]; omega
      refine At.cutAll (ι := {q : Nat × Nat × List Value // GetC most 6 i q.2.1 cs c q.2.2}) ⟨0, [1, 0, 1, 1, 1, 1, 1, 0, 0, 1, 1, 0, 0, 1, 0, 1, 1], []⟩ (fun q => [(0, .pointer (some ⟨gr, 0, none⟩)), (1, .int .i64 most), (7, sv (some q.1.1) q.1.2.1 q.1.2.1), (9, .pointer (some ⟨b9, 0, none⟩)), (10, sv cg c.length cc), (14, .slice (some ⟨gf, 0, none⟩) 6 6), (15, .int .i64 6), (16, .int .i64 i), (58, .bool (!decide ((c.length : Int) = q.1.2.1)))]) (fun _ => [(b9, 114, [.func (.func F) ⟨[]⟩ ⟨[]⟩, .func (.func G) ⟨[]⟩ ⟨[]⟩]), (gr, 72, [str (s'.drop k), .int .i64 ee, .bool u'])]) (fun q => [Seg.row (some q.1.1) 56 6 q.1.2.1 q.1.2.1 q.1.2.2, Seg.row cg 2 1 c.length cc (i64s c)]) ?_ (fun hz => ?_)
      · rintro ⟨⟨g, m', ys⟩, hC⟩
        replace hC : GetC most 6 i m' cs c ys := hC
        have hC1 : ys.length = m' * 6 := hC.1
        have hC2 : m' ≤ most := hC.2.1
        by_cases hlen : c.length = m'
        · refine At.run 100 true [false] [] rfl (by (repeat' apply And.intro) <;> first | exact True.intro | omega | (simp only [inK]; omega) | (simp; done) | (simp; omega) | exact decide_eq_true (by omega) | exact decide_eq_false (by omega) | rfl | (simp [Value.oneCell']; done) | exact i64s_one _ | exact AggOk.mk (by kernel_rfl) (by kernel_rfl)) ?_
          refine At.loop (n := c.length) (env0 := [(0, .pointer (some ⟨gr, 0, none⟩)), (1, .int .i64 most), (7, sv (some g) m' m'), (9, .pointer (some ⟨b9, 0, none⟩)), (10, sv cg c.length cc), (14, .slice (some ⟨gf, 0, none⟩) 6 6), (15, .int .i64 6), (16, .int .i64 i), (63, .int .i64 c.length), (64, .int .i64 0)]) (fun mm env bx hp => ∃ (j : Nat) (zs : List Value), mm = c.length - j ∧ j ≤ c.length ∧
            env = [(0, .pointer (some ⟨gr, 0, none⟩)), (1, .int .i64 most), (7, sv (some g) m' m'), (9, .pointer (some ⟨b9, 0, none⟩)), (10, sv cg c.length cc), (14, .slice (some ⟨gf, 0, none⟩) 6 6), (15, .int .i64 6), (16, .int .i64 i), (63, .int .i64 c.length), (64, .int .i64 j)] ∧ bx = [(b9, 114, [.func (.func F) ⟨[]⟩ ⟨[]⟩, .func (.func G) ⟨[]⟩ ⟨[]⟩]), (gr, 72, [str (s'.drop k), .int .i64 ee, .bool u'])] ∧ hp = [Seg.row (some g) 56 6 m' m' zs, Seg.row cg 2 1 c.length cc (i64s c)] ∧ zs.length = m' * 6 ∧ (evenB cs = true → zs = (rowsT 6 m' (cs ++ [c.take j])).flatMap i64s)) rfl
            ⟨0, ys, rfl, by omega, rfl, rfl, rfl, hC1, fun h => by rw [List.take_zero, rowsT_nil_snoc]; exact (hC.2.2 h).2⟩ ⟨rfl, rfl, rfl, rfl, rfl, rfl, rfl, rfl, rfl, rfl, trivial⟩ ?_
          rintro mm env bx hp ⟨j, zs, rfl, hj, rfl, rfl, rfl, hzl, hzs⟩ ih2
          by_cases hjl : j < c.length
          · obtain ⟨x, hx⟩ : ∃ x, c[j]? = some x := ⟨_, List.getElem?_eq_getElem hjl⟩
            refine At.rowSome 1 rfl (by omega) (fun g2 hg2 => ?_)
            subst hg2
            have hst := rowsT_set (sz := 6) (n := m') (cs := cs) (c := c) (j := j) (x := x) (by omega) (by omega) hx
            refine At.run 100 true [true] [] rfl (by (repeat' apply And.intro) <;> first | exact True.intro | omega | (simp only [inK]; omega) | (simp; done) | (simp; omega) | exact decide_eq_true (by omega) | exact decide_eq_false (by omega) | rfl | (simp [Value.oneCell']; done) | exact i64s_one _ | exact AggOk.mk (by kernel_rfl) (by kernel_rfl)) ?_
            have r1 : RdW ⟨w, kys [(gr, 72, [str s, .int .i64 0, .bool u])] []⟩ [(b9, 114, [.func (.func F) ⟨[]⟩ ⟨[]⟩, .func (.func G) ⟨[]⟩ ⟨[]⟩]), (gr, 72, [str (s'.drop k), .int .i64 ee, .bool u'])] [Seg.row (some g) 56 6 m' m' zs, Seg.row (some g2) 2 1 c.length cc (i64s c)] g2 (0 + (j : Int).toNat * 1) [.int .i64 x] := RdW.row (j := 1) rfl (fun i' u' hu => by
              match i', hu with
              | 0, hu => simp at hu; subst hu; rw [show 0 + (j : Int).toNat * 1 + 0 = j by omega]; exact i64s_get hx)
            refine At.quietT 9 1 true [] [hB 0, hR [.int .i64 x]] ⟨by kernel_rfl, by kernel_rfl, rfl, by kernel_rfl, by kernel_rfl, by kernel_rfl, rfl, rfl, rfl⟩ rfl rfl rfl (by (repeat' apply And.intro) <;> first | exact r1 | exact True.intro | omega | rfl | (simp only [inK]; omega) | exact decide_eq_true (by omega) | exact decide_eq_false (by omega) | (simp; done) | (simp; omega) | (simp [Value.oneCell']; done) | exact i64s_one _ | exact AggOk.mk (by kernel_rfl) (by kernel_rfl)) rfl ?_
            refine AtD.fork1 9 (by kernel_rfl) (StepD.by [] rfl rfl rfl rfl trivial (OpOk.callO [] [true] rfl rfl (fun w' hw' hown => hset g m' m' (0 + (j : Int).toNat * 6) x zs w' (by rw [hzl]; omega) hown) ?_))
            rintro v bx' hp' ⟨rfl, rfl, rfl⟩
            refine AtD.done (by kernel_rfl) ?_
            refine At.run 100 true [] [] rfl (by (repeat' apply And.intro) <;> first | exact True.intro | omega | (simp only [inK]; omega) | (simp; done) | (simp; omega) | exact decide_eq_true (by omega) | exact decide_eq_false (by omega) | rfl | (simp [Value.oneCell']; done) | exact i64s_one _ | exact AggOk.mk (by kernel_rfl) (by kernel_rfl)) ?_
            refine At.weak (ih2 (c.length - (j + 1)) _ _ _ (by omega) ⟨j + 1, _, rfl, by omega, rfl, rfl, rfl, by rw [putL_one_len]; exact hzl, fun h => ?_⟩) ⟨rfl, rfl, rfl, rfl, rfl, rfl, rfl, rfl, rfl, some_int_eq (by omega), trivial⟩
            rw [← hst, ← hzs h, hcl, show 0 + (j : Int).toNat * 6 + i = j * 6 + i by omega]
          · have : j = c.length := by omega
            subst this
            rw [List.take_length] at hzs
            refine At.run 100 true [false] [] rfl (by (repeat' apply And.intro) <;> first | exact True.intro | omega | (simp only [inK]; omega) | (simp; done) | (simp; omega) | exact decide_eq_true (by omega) | exact decide_eq_false (by omega) | rfl | (simp [Value.oneCell']; done) | exact i64s_one _ | exact AggOk.mk (by kernel_rfl) (by kernel_rfl)) ?_
            refine At.keep [false, true] [true] rfl ?_
            exact At.weak (ih (6 - (i + 1)) _ _ _ (by omega) ⟨i + 1, m', some g, zs, s'.drop k, ee, u', rfl, by omega, rfl, rfl, rfl, hI.even hlt hcs hGc hC hlen hzl hzs g⟩) ⟨rfl, rfl, rfl, rfl, rfl, some_int_eq (by omega), trivial⟩
        · refine At.run 100 true [true] [hB 1] rfl (by (repeat' apply And.intro) <;> first | exact True.intro | omega | (simp only [inK]; omega) | (simp; done) | (simp; omega) | exact decide_eq_true (by omega) | exact decide_eq_false (by omega) | rfl | (simp [Value.oneCell']; done) | exact i64s_one _ | exact AggOk.mk (by kernel_rfl) (by kernel_rfl)) ?_
          refine At.keep [false, true] [true] rfl ?_
          exact At.weak (ih (6 - (i + 1)) _ _ _ (by omega) ⟨i + 1, m', some g, ys, s'.drop k, ee, true, rfl, by omega, rfl, rfl, rfl, hI.odd hlt hcs hGc hC hlen g⟩) ⟨rfl, rfl, rfl, rfl, rfl, some_int_eq (by omega), trivial⟩
      · by_cases hi0 : i = 0
        · subst hi0
          have hcs0 : cs = [] := List.length_eq_zero_iff.1 hcl
          refine At.run 100 true [true] [hB 1, hB 1, hB 1] rfl (by (repeat' apply And.intro) <;> first | exact hk2 | exact True.intro | omega | rfl | (simp only [inK]; omega) | exact decide_eq_true (by omega) | exact decide_eq_false (by omega) | (simp; done) | (simp; omega) | (simp [Value.oneCell']; done) | exact i64s_one _ | exact AggOk.mk (by kernel_rfl) (by kernel_rfl)) ?_
          refine At.step [] rfl rfl rfl rfl rfl trivial (OpOk.makeSlice (sz := 6) (by_ := 48) (xs := List.replicate (c.length * 6) (.int .i64 0)) c.length rfl rfl rfl rfl rfl rfl (by omega) (by omega) (by omega) (by simp) (fun j hj => rep_get (n := 6) (by omega) hj) (by decide) (fun g => ?_))
          refine At.run 100 true [] [] rfl (by (repeat' apply And.intro) <;> first | exact True.intro | omega | (simp only [inK]; omega) | (simp; done) | (simp; omega) | exact decide_eq_true (by omega) | exact decide_eq_false (by omega) | rfl | (simp [Value.oneCell']; done) | exact i64s_one _ | exact AggOk.mk (by kernel_rfl) (by kernel_rfl)) ?_
          refine At.keep [true, true] [true, true] rfl ?_
          exact At.weak (hz ⟨(g, c.length, List.replicate (c.length * 6) (.int .i64 0)), by simp, hcln, fun _ => ⟨rfl, by rw [hcs0]; exact (rowsT_zero _ _).symm⟩⟩) ⟨rfl, rfl, rfl, rfl, rfl, rfl, rfl, rfl, rfl, trivial⟩
        · obtain ⟨g, rfl⟩ := hI.has (by omega)
          refine At.run 100 true [false] [hB 1, hB 1, hB 1] rfl (by (repeat' apply And.intro) <;> first | exact hk2 | exact True.intro | omega | rfl | (simp only [inK]; omega) | exact decide_eq_true (by omega) | exact decide_eq_false (by omega) | (simp; done) | (simp; omega) | (simp [Value.oneCell']; done) | exact i64s_one _ | exact AggOk.mk (by kernel_rfl) (by kernel_rfl)) ?_
          refine At.perm (List.Perm.refl _) (List.Perm.swap _ _ _) ?_
          exact At.weak (hz ⟨(g, m, xs), hI.len, hI.le, fun h => ⟨by rw [if_neg hi0]; exact (hxs (by omega) h).1, (hxs (by omega) h).2⟩⟩) ⟨rfl, rfl, rfl, rfl, rfl, rfl, rfl, rfl, rfl, trivial⟩
    · refine At.run 100 true [true] [hB 0, hB 1] rfl (by (repeat' apply And.intro) <;> first | exact True.intro | omega | (simp only [inK]; omega) | (simp; done) | (simp; omega) | exact decide_eq_true (by omega) | exact decide_eq_false (by omega) | rfl | (simp [Value.oneCell']; done) | exact i64s_one _ | exact AggOk.mk (by kernel_rfl) (by kernel_rfl)) ?_
      refine At.keep [false, true] [] rfl ?_
      refine At.nilRow 56 6 ?_
      exact At.ret [] rfl Tryz.func32 rfl trivial ⟨none, 0, [], s', e', u', rfl, rfl, rfl, hI.stop he⟩
  · have : i = 6 := by omega
    subst this
    refine At.run 100 true [false] [] rfl (by (repeat' apply And.intro) <;> first | exact True.intro | omega | (simp only [inK]; omega) | (simp; done) | (simp; omega) | exact decide_eq_true (by omega) | exact decide_eq_false (by omega) | rfl | (simp [Value.oneCell']; done) | exact i64s_one _ | exact AggOk.mk (by kernel_rfl) (by kernel_rfl)) ?_
    exact At.ret [] rfl Tryz.func32 rfl trivial ⟨a, m, xs, s', e', u', rfl, rfl, rfl, hI.fin (by decide)⟩

end Go.Proofs

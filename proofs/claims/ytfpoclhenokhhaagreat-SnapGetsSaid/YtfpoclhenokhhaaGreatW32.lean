/-
  Walks of layer 13: books got.
-/
import Derived.Test.YtfpoclhenokhhaaGreatW31H
import Derived.Test.YtfpoclhenokhhaaGreatW31S
import Derived.Test.YtfpoclhenokhhaaGreatW31O
import Derived.Test.YtfpoclhenokhhaaGreatW31R
import Derived.Test.YtfpoclhenokhhaaGreatW28
namespace Go.Proofs
open Go Go.Eng
set_option maxRecDepth 100000
set_option maxHeartbeats 4000000
attribute [local irreducible] Tri

theorem notKeyB {S : Base} {g t : Nat} {cs : List Value} {bx : Bx} {e : Nat × TypeId × List Value} {hp : List Seg} {w : World} (h : WOk S ((g, t, cs) :: e :: bx) hp w) : g ∉ kys [e] [] := by
  intro hk
  have hnd := h.nd
  simp only [kys, List.map_cons, List.cons_append, List.nodup_cons] at hnd
  apply hnd.1
  simp only [kys, List.map_cons, List.map_nil, List.flatMap_nil, List.append_nil, List.mem_singleton] at hk
  simp [hk]

/-- Where a new book's lists lie. -/
structure BkG where
  g1 : Option Nat
  g2 : Option Nat
  g3 : Option Nat
  g4 : Option Nat
  c1 : Nat
  c2 : Nat
  c3 : Nat
  c4 : Nat
def BkG.A (G : BkG) : BkA := ⟨svA G.g1, svA G.g2, svA G.g3, svA G.g4, G.c1, G.c2, G.c3, G.c4⟩
def Tryz.bkRows (b : Bk) (G : BkG) : List Seg := [Seg.row G.g4 61 2 b.R.length G.c4 (b.R.flatMap i64s), Seg.row G.g3 56 6 b.O.length G.c3 (b.O.flatMap i64s), Seg.row G.g2 51 3 b.S.length G.c2 (b.S.flatMap i64s), Seg.row G.g1 46 4 b.H.length G.c1 (b.H.flatMap i64s)]
theorem Tryz.bkRows_ok {S : Base} {bx : Bx} {hp : List Seg} {w : World} {b : Bk} {G : BkG} (hw : WOk S bx hp w) (h : ∀ s, s ∈ Tryz.bkRows b G → s ∈ hp) : BkOk w b G.A :=
  have m (i : Nat) {s : Seg} (hs : (Tryz.bkRows b G)[i]? = some s) : s ∈ hp := h s (List.mem_of_getElem? hs)
  ⟨SlOk.row (hw.hp _ (m 3 rfl)), SlOk.row (hw.hp _ (m 2 rfl)), SlOk.row (hw.hp _ (m 1 rfl)), SlOk.row (hw.hp _ (m 0 rfl))⟩

theorem Tryz.snapGet_w (s : List UInt8) (w : World) (hs : s.length ≤ 9223372036854775807) :
    Tri Tryz.prog 10 [str s] w [] (fun v bx hp => ∃ G : BkG, v = .tuple #[.agg ⟨bkV (getBk s).1 G.A⟩, .int .i64 (getBk s).2] ∧ bx = [] ∧ hp = Tryz.bkRows (getBk s).1 G) := by
  refine Tri.enter (bx := []) (hp := []) Tryz.func10 rfl (by kernel_rfl) rfl (Own.nil w) ?_
  refine At.run 100 true [] [] rfl trivial ?_
  refine At.step [] rfl rfl rfl rfl rfl trivial (OpOk.alloc (cs := [sv none 0 0, sv none 0 0, sv none 0 0, sv none 0 0, .int .i64 0]) rfl (by kernel_rfl) fun b2 hb2 => ?_)
  refine At.run 100 true [] [] rfl trivial ?_
  refine At.step [] rfl rfl rfl rfl rfl trivial (OpOk.call rfl (fun w' hw' => Tryz.Read_w ⟨s.toArray⟩ w') ?_)
  rintro v bx' hp' ⟨b, rfl, rfl, rfl⟩
  have hN0 := rdN_lt s 0 0 1099511627776
  have hA0 := rdN_a (l := s) (a := 0) (f := 0) (most := 1099511627776) (by omega)
  have hNum : ∀ {w' : World} {bx : Bx}, WOk ⟨w, kys [] []⟩ ((b, 122, rdr ⟨s.toArray⟩ 0 0) :: bx) [] w' → _ := fun {w'} {bx} hw' => Tryz.Num_w ⟨s.toArray⟩ 0 0 b 1099511627776 w' (by omega) (by rw [bl_str]; exact hs) (Own.head hw'.toOwn)
  simp only [bl_str] at hNum
  obtain ⟨n, a, e0, hN⟩ : ∃ n a f, rdN s 0 0 1099511627776 = (n, a, f) := ⟨_, _, _, rfl⟩
  rw [hN] at hN0 hA0 hNum
  simp only at hN0 hA0 hNum
  refine At.run 100 true [] [hU (.int .u64 n) 0 (rdr ⟨s.toArray⟩ a e0)] rfl (by (repeat' apply And.intro) <;> first | exact fun w' hw' => hNum hw' | exact True.intro | omega | rfl | (simp only [inK]; omega) | exact decide_eq_true (by omega) | exact decide_eq_false (by omega) | (simp; done) | (simp; omega) | (simp [Value.oneCell']; done) | exact i64s_one _ | exact AggOk.mk (by kernel_rfl) (by kernel_rfl)) ?_
  refine At.step [] rfl rfl rfl rfl rfl trivial (OpOk.alloc (cs := [sv none 0 0, sv none 0 0, sv none 0 0, sv none 0 0, .int .i64 0]) rfl (by kernel_rfl) fun b5 hb5 => ?_)
  refine At.run 100 true [] [hB 0] rfl (by (repeat' apply And.intro) <;> first | simp [Value.oneCell', sv]; done | exact True.intro | omega | rfl | (simp only [inK]; omega) | exact decide_eq_true (by omega) | exact decide_eq_false (by omega) | (simp; done) | (simp; omega) | (simp [Value.oneCell']; done) | exact i64s_one _ | exact AggOk.mk (by kernel_rfl) (by kernel_rfl)) ?_
  have hLeft : ∀ {w' : World} {bx : Bx} {hp : List Seg} {x : Nat × TypeId × List Value}, WOk ⟨w, kys [] []⟩ (x :: (b, 122, rdr ⟨s.toArray⟩ a e0) :: bx) hp w' → _ := fun {w' bx hp x} hw' => Tryz.Left_w ⟨s.toArray⟩ a e0 b w' (by rw [bl_str]; exact hA0.2) (by rw [bl_str]; exact hs) (hw'.bx (b, _, rdr _ _ _) (by simp))
  have hFault : ∀ {w' : World} {bx : Bx} {hp : List Seg} {x : Nat × TypeId × List Value}, WOk ⟨w, kys [] []⟩ (x :: (b, 122, rdr ⟨s.toArray⟩ a e0) :: bx) hp w' → _ := fun {w' bx hp x} hw' => Tryz.Fault_w ⟨s.toArray⟩ a e0 b w' (hw'.bx (b, _, rdr _ _ _) (by simp))
  simp only [bl_str] at hLeft
  have hsz : (bl ⟨s.toArray⟩).length = s.length := by rw [bl_str]
  refine At.quietT 10 2 true [] [hC (.int .i64 (s.length - a : Nat)), hC (.int .i64 e0)] ⟨by kernel_rfl, by kernel_rfl, rfl, by kernel_rfl, by kernel_rfl, by kernel_rfl, rfl, rfl, rfl⟩ rfl rfl rfl (by (repeat' apply And.intro) <;> first | exact fun w' hw' => hLeft hw' | exact fun w' hw' => hFault hw' | exact True.intro | omega | rfl | (simp only [inK]; omega) | exact decide_eq_true (by omega) | exact decide_eq_false (by omega) | (simp; done) | (simp; omega) | (simp [Value.oneCell']; done) | exact i64s_one _ | exact AggOk.mk (by kernel_rfl) (by kernel_rfl)) rfl ?_
  refine AtD.fork1 10 (by kernel_rfl) (StepD.by [] rfl rfl rfl rfl trivial (OpOk.box rfl rfl rfl fun gr hgr => ?_))
  refine AtD.pures (ob := True) true (by kernel_rfl) [11] (fuel := 0) (by kernel_rfl) rfl (by (repeat' apply And.intro) <;> first | exact True.intro | omega | (simp only [inK]; omega) | (simp; done) | (simp; omega) | exact decide_eq_true (by omega) | exact decide_eq_false (by omega) | rfl | (simp [Value.oneCell']; done) | exact i64s_one _ | exact AggOk.mk (by kernel_rfl) (by kernel_rfl)) ?_
  refine AtD.done (by kernel_rfl) ?_
  have hdr : (s.drop a).length ≤ 9223372036854775807 := by rw [List.length_drop]; omega
  have hdd : (((bl ⟨s.toArray⟩).length : Int) - ((s.length - a : Nat) : Int)).toNat = a := by omega
  refine At.keep [true, true, false, true] [] rfl ?_
  rw [hdd, bl_str]
  refine At.run 100 true [] [] rfl trivial ?_
  refine At.step [] rfl rfl rfl rfl rfl trivial (OpOk.call rfl (fun w' _ => Tryz.holders_w w') ?_)
  rintro v bx' hp' ⟨gf, rfl, rfl, rfl⟩
  refine At.run 100 true [] [] rfl trivial ?_
  refine At.step [] rfl rfl rfl rfl rfl trivial (OpOk.callO [false, true] [] rfl rfl (fun w' hw' hown => Tryz.snapGetHolder_w (s.drop a) e0 false 32 gr gf w' (by omega) (by have := hdr; omega) (hw'.bx (gf, _, Tryz.holdersL) (List.mem_cons_self ..)) hown (notKeyB hw')) ?_)
  rintro v bx' hp' ⟨y1, m1, x1, s1, e1, u1, rfl, rfl, rfl, hR1⟩
  have hl1 := hR1.slen
  refine At.run 100 true [] [hB 2] rfl (by (repeat' apply And.intro) <;> first | simp [Value.oneCell', sv]; done | exact True.intro | omega | rfl | (simp only [inK]; omega) | exact decide_eq_true (by omega) | exact decide_eq_false (by omega) | (simp; done) | (simp; omega) | (simp [Value.oneCell']; done) | exact i64s_one _ | exact AggOk.mk (by kernel_rfl) (by kernel_rfl)) ?_
  refine At.keep [true, false, true, true] [true] rfl ?_
  refine At.run 100 true [] [] rfl trivial ?_
  refine At.step [] rfl rfl rfl rfl rfl trivial (OpOk.call rfl (fun w' _ => Tryz.stakes_w w') ?_)
  rintro v bx' hp' ⟨gf, rfl, rfl, rfl⟩
  refine At.run 100 true [] [] rfl trivial ?_
  refine At.step [] rfl rfl rfl rfl rfl trivial (OpOk.callO [false, true] [] rfl rfl (fun w' hw' hown => Tryz.snapGetStake_w s1 e1 u1 1024 gr gf w' (by omega) (by have := hR1.slen; omega) (hw'.bx (gf, _, Tryz.stakesL) (List.mem_cons_self ..)) hown (notKeyB hw')) ?_)
  rintro v bx' hp' ⟨y2, m2, x2, s2, e2, u2, rfl, rfl, rfl, hR2⟩
  have hl2 := hR2.slen
  refine At.run 100 true [] [hB 2] rfl (by (repeat' apply And.intro) <;> first | simp [Value.oneCell', sv]; done | exact True.intro | omega | rfl | (simp only [inK]; omega) | exact decide_eq_true (by omega) | exact decide_eq_false (by omega) | (simp; done) | (simp; omega) | (simp [Value.oneCell']; done) | exact i64s_one _ | exact AggOk.mk (by kernel_rfl) (by kernel_rfl)) ?_
  refine At.keep [true, false, true, true] [true, true] rfl ?_
  refine At.run 100 true [] [] rfl trivial ?_
  refine At.step [] rfl rfl rfl rfl rfl trivial (OpOk.call rfl (fun w' _ => Tryz.opens_w w') ?_)
  rintro v bx' hp' ⟨gf, rfl, rfl, rfl⟩
  refine At.run 100 true [] [] rfl trivial ?_
  refine At.step [] rfl rfl rfl rfl rfl trivial (OpOk.callO [false, true] [] rfl rfl (fun w' hw' hown => Tryz.snapGetOpen_w s2 e2 u2 64 gr gf w' (by omega) (by have := hR2.slen; omega) (hw'.bx (gf, _, Tryz.opensL) (List.mem_cons_self ..)) hown (notKeyB hw')) ?_)
  rintro v bx' hp' ⟨y3, m3, x3, s3, e3, u3, rfl, rfl, rfl, hR3⟩
  have hl3 := hR3.slen
  refine At.run 100 true [] [hB 2] rfl (by (repeat' apply And.intro) <;> first | simp [Value.oneCell', sv]; done | exact True.intro | omega | rfl | (simp only [inK]; omega) | exact decide_eq_true (by omega) | exact decide_eq_false (by omega) | (simp; done) | (simp; omega) | (simp [Value.oneCell']; done) | exact i64s_one _ | exact AggOk.mk (by kernel_rfl) (by kernel_rfl)) ?_
  refine At.keep [true, false, true, true] [true, true, true] rfl ?_
  refine At.run 100 true [] [] rfl trivial ?_
  refine At.step [] rfl rfl rfl rfl rfl trivial (OpOk.call rfl (fun w' _ => Tryz.rates_w w') ?_)
  rintro v bx' hp' ⟨gf, rfl, rfl, rfl⟩
  refine At.run 100 true [] [] rfl trivial ?_
  refine At.step [] rfl rfl rfl rfl rfl trivial (OpOk.callO [false, true] [] rfl rfl (fun w' hw' hown => Tryz.snapGetRate_w s3 e3 u3 32 gr gf w' (by omega) (by have := hR3.slen; omega) (hw'.bx (gf, _, Tryz.ratesL) (List.mem_cons_self ..)) hown (notKeyB hw')) ?_)
  rintro v bx' hp' ⟨y4, m4, x4, s4, e4, u4, rfl, rfl, rfl, hR4⟩
  have hl4 := hR4.slen
  refine At.run 100 true [] [hB 2] rfl (by (repeat' apply And.intro) <;> first | simp [Value.oneCell', sv]; done | exact True.intro | omega | rfl | (simp only [inK]; omega) | exact decide_eq_true (by omega) | exact decide_eq_false (by omega) | (simp; done) | (simp; omega) | (simp [Value.oneCell']; done) | exact i64s_one _ | exact AggOk.mk (by kernel_rfl) (by kernel_rfl)) ?_
  refine At.keep [true, false, true, true] [true, true, true, true] rfl ?_
  have hch := getBk_chain hN hR1 hR2 hR3 hR4
  by_cases he : e4 = 0
  · subst he
    by_cases hs4 : s4 = []
    · subst hs4
      cases hu : u4 with
      | true =>
        subst hu
        have hb := hch.2.1 rfl (.inr rfl)
        refine At.run 100 true [false, false, true, true] [hB 0, hB 0, hB 0, hB 2] rfl (by (repeat' apply And.intro) <;> first | simp [Value.oneCell', sv]; done | exact True.intro | omega | rfl | (simp only [inK]; omega) | exact decide_eq_true (by omega) | exact decide_eq_false (by omega) | (simp; done) | (simp; omega) | (simp [Value.oneCell']; done) | exact i64s_one _ | exact AggOk.mk (by kernel_rfl) (by kernel_rfl)) ?_
        refine At.keep [true, true, true] [] rfl ?_
        refine At.nilRow 46 4 ?_
        refine At.nilRow 51 3 ?_
        refine At.nilRow 56 6 ?_
        refine At.nilRow 61 2 ?_
        exact At.retK [] [true, true, true, true] [hB 2] rfl rfl Tryz.func10 rfl (by (repeat' apply And.intro) <;> first | exact True.intro | omega | (simp only [inK]; omega) | (simp; done) | (simp; omega) | exact decide_eq_true (by omega) | exact decide_eq_false (by omega) | rfl | (simp [Value.oneCell']; done) | exact i64s_one _ | exact AggOk.mk (by kernel_rfl) (by kernel_rfl)) ⟨⟨none, none, none, none, 0, 0, 0, 0⟩, by rw [hb]; rfl, rfl, by rw [hb]; rfl⟩
      | false =>
        subst hu
        obtain ⟨bk, hbi, hbS, hbc, rfl, rfl, rfl, rfl, rfl, rfl, rfl, rfl, hb⟩ := hch.2.2 rfl rfl rfl
        have hM : ∀ {bx : Bx}, CallOb Tryz.prog ⟨w, kys [] []⟩ bx [Seg.row y4 61 2 bk.R.length bk.R.length (bk.R.flatMap i64s), Seg.row y3 56 6 bk.O.length bk.O.length (bk.O.flatMap i64s), Seg.row y2 51 3 bk.S.length bk.S.length (bk.S.flatMap i64s), Seg.row y1 46 4 bk.H.length bk.H.length (bk.H.flatMap i64s)] 14 [.agg ⟨[sv y1 bk.H.length bk.H.length, sv y2 bk.S.length bk.S.length, sv y3 bk.O.length bk.O.length, sv y4 bk.R.length bk.R.length, .int .i64 n]⟩] (.bool (mayB bk)) := fun {_} w' hw' => by
          have := Tryz.May_w bk (BkG.A ⟨y1, y2, y3, y4, bk.H.length, bk.S.length, bk.O.length, bk.R.length⟩) w' hbi (Tryz.bkRows_ok hw' (fun s hs => hs))
          rw [← hbc]; exact this
        cases hm : mayB bk with
        | true =>
          rw [hm] at hM hb
          rw [if_pos rfl] at hb
          refine At.run 100 true [false, false, false, false] [hB 0, hB 0, hB 0, hB 1, hC (.bool true), hB 1, hB 2] rfl (by (repeat' apply And.intro) <;> first | exact hM | simp [Value.oneCell', sv]; done | exact True.intro | omega | rfl | (simp only [inK]; omega) | exact decide_eq_true (by omega) | exact decide_eq_false (by omega) | (simp; done) | (simp; omega) | (simp [Value.oneCell']; done) | exact i64s_one _ | exact AggOk.mk (by kernel_rfl) (by kernel_rfl)) ?_
          exact At.retK [] [true, true, true, true] [hB 2] rfl rfl Tryz.func10 rfl (by (repeat' apply And.intro) <;> first | exact True.intro | omega | (simp only [inK]; omega) | (simp; done) | (simp; omega) | exact decide_eq_true (by omega) | exact decide_eq_false (by omega) | rfl | (simp [Value.oneCell']; done) | exact i64s_one _ | exact AggOk.mk (by kernel_rfl) (by kernel_rfl)) ⟨⟨y1, y2, y3, y4, bk.H.length, bk.S.length, bk.O.length, bk.R.length⟩, by rw [hb]; simp only [bkV, hbc]; rfl, rfl, by rw [hb]; rfl⟩
        | false =>
          rw [hm] at hM hb
          rw [if_neg (by simp)] at hb
          refine At.run 100 true [false, false, false, true] [hB 0, hB 0, hB 0, hB 1, hC (.bool false), hB 2] rfl (by (repeat' apply And.intro) <;> first | exact hM | simp [Value.oneCell', sv]; done | exact True.intro | omega | rfl | (simp only [inK]; omega) | exact decide_eq_true (by omega) | exact decide_eq_false (by omega) | (simp; done) | (simp; omega) | (simp [Value.oneCell']; done) | exact i64s_one _ | exact AggOk.mk (by kernel_rfl) (by kernel_rfl)) ?_
          refine At.keep [true, true, true] [] rfl ?_
          refine At.nilRow 46 4 ?_
          refine At.nilRow 51 3 ?_
          refine At.nilRow 56 6 ?_
          refine At.nilRow 61 2 ?_
          exact At.retK [] [true, true, true, true] [hB 2] rfl rfl Tryz.func10 rfl (by (repeat' apply And.intro) <;> first | exact True.intro | omega | (simp only [inK]; omega) | (simp; done) | (simp; omega) | exact decide_eq_true (by omega) | exact decide_eq_false (by omega) | rfl | (simp [Value.oneCell']; done) | exact i64s_one _ | exact AggOk.mk (by kernel_rfl) (by kernel_rfl)) ⟨⟨none, none, none, none, 0, 0, 0, 0⟩, by rw [hb]; rfl, rfl, by rw [hb]; rfl⟩
    · have hb := hch.2.1 rfl (.inl hs4)
      refine At.run 100 true [false, true, true, true] [hB 0, hB 0, hB 2] rfl (by (repeat' apply And.intro) <;> first | simp [hs4]; done | exact True.intro | omega | rfl | (simp only [inK]; omega) | exact decide_eq_true (by omega) | exact decide_eq_false (by omega) | (simp; done) | (simp; omega) | (simp [Value.oneCell']; done) | exact i64s_one _ | exact AggOk.mk (by kernel_rfl) (by kernel_rfl)) ?_
      refine At.keep [true, true, true] [] rfl ?_
      refine At.nilRow 46 4 ?_
      refine At.nilRow 51 3 ?_
      refine At.nilRow 56 6 ?_
      refine At.nilRow 61 2 ?_
      exact At.retK [] [true, true, true, true] [hB 2] rfl rfl Tryz.func10 rfl (by (repeat' apply And.intro) <;> first | exact True.intro | omega | (simp only [inK]; omega) | (simp; done) | (simp; omega) | exact decide_eq_true (by omega) | exact decide_eq_false (by omega) | rfl | (simp [Value.oneCell']; done) | exact i64s_one _ | exact AggOk.mk (by kernel_rfl) (by kernel_rfl)) ⟨⟨none, none, none, none, 0, 0, 0, 0⟩, by rw [hb]; rfl, rfl, by rw [hb]; rfl⟩
  · have hb := hch.1 he
    refine At.run 100 true [true] [hB 0] rfl (by (repeat' apply And.intro) <;> first | exact True.intro | omega | (simp only [inK]; omega) | (simp; done) | (simp; omega) | exact decide_eq_true (by omega) | exact decide_eq_false (by omega) | rfl | (simp [Value.oneCell']; done) | exact i64s_one _ | exact AggOk.mk (by kernel_rfl) (by kernel_rfl)) ?_
    refine At.draw 7 rfl rfl rfl rfl ?_
    refine AtD.pures (ob := True) true (by kernel_rfl) [0, 1, 2, 3] (fuel := 3) (by kernel_rfl) rfl (by (repeat' apply And.intro) <;> first | exact True.intro | omega | (simp only [inK]; omega) | (simp; done) | (simp; omega) | exact decide_eq_true (by omega) | exact decide_eq_false (by omega) | rfl | (simp [Value.oneCell']; done) | exact i64s_one _ | exact AggOk.mk (by kernel_rfl) (by kernel_rfl)) ?_
    refine AtD.fork2 4 5 (by kernel_rfl) ?_ ?_
    · refine StepD.by [] rfl rfl rfl rfl trivial (OpOk.one true [] [hB 0] rfl rfl ?_)
      refine AtD.fork1 5 (by kernel_rfl) (StepD.by0 [] rfl rfl rfl trivial (OpOk.one true [] [hB 2] rfl (by (repeat' apply And.intro) <;> first | simp [Value.oneCell', sv]; done | exact True.intro | omega | rfl | (simp only [inK]; omega) | exact decide_eq_true (by omega) | exact decide_eq_false (by omega) | (simp; done) | (simp; omega) | (simp [Value.oneCell']; done) | exact i64s_one _ | exact AggOk.mk (by kernel_rfl) (by kernel_rfl)) ?_))
      refine AtD.pures (ob := True) true (by kernel_rfl) [6] (fuel := 0) (by kernel_rfl) rfl trivial ?_
      refine AtD.done (by kernel_rfl) ?_
      refine At.run 100 true [] [] rfl trivial ?_
      refine At.keep [true, true, true] [] rfl ?_
      refine At.nilRow 46 4 ?_
      refine At.nilRow 51 3 ?_
      refine At.nilRow 56 6 ?_
      refine At.nilRow 61 2 ?_
      exact At.retK [] [true, true, true, true] [hB 2] rfl rfl Tryz.func10 rfl (by (repeat' apply And.intro) <;> first | exact True.intro | omega | (simp only [inK]; omega) | (simp; done) | (simp; omega) | exact decide_eq_true (by omega) | exact decide_eq_false (by omega) | rfl | (simp [Value.oneCell']; done) | exact i64s_one _ | exact AggOk.mk (by kernel_rfl) (by kernel_rfl)) ⟨⟨none, none, none, none, 0, 0, 0, 0⟩, by rw [hb]; rfl, rfl, by rw [hb]; rfl⟩
    · refine StepD.by0 [] rfl rfl rfl trivial (OpOk.one true [] [hB 2] rfl (by (repeat' apply And.intro) <;> first | simp [Value.oneCell', sv]; done | exact True.intro | omega | rfl | (simp only [inK]; omega) | exact decide_eq_true (by omega) | exact decide_eq_false (by omega) | (simp; done) | (simp; omega) | (simp [Value.oneCell']; done) | exact i64s_one _ | exact AggOk.mk (by kernel_rfl) (by kernel_rfl)) ?_)
      refine AtD.fork1 4 (by kernel_rfl) (StepD.by [] rfl rfl rfl rfl trivial (OpOk.one true [] [hB 0] rfl rfl ?_))
      refine AtD.pures (ob := True) true (by kernel_rfl) [6] (fuel := 0) (by kernel_rfl) rfl trivial ?_
      refine AtD.done (by kernel_rfl) ?_
      refine At.run 100 true [] [] rfl trivial ?_
      refine At.keep [true, true, true] [] rfl ?_
      refine At.nilRow 46 4 ?_
      refine At.nilRow 51 3 ?_
      refine At.nilRow 56 6 ?_
      refine At.nilRow 61 2 ?_
      exact At.retK [] [true, true, true, true] [hB 2] rfl rfl Tryz.func10 rfl (by (repeat' apply And.intro) <;> first | exact True.intro | omega | (simp only [inK]; omega) | (simp; done) | (simp; omega) | exact decide_eq_true (by omega) | exact decide_eq_false (by omega) | rfl | (simp [Value.oneCell']; done) | exact i64s_one _ | exact AggOk.mk (by kernel_rfl) (by kernel_rfl)) ⟨⟨none, none, none, none, 0, 0, 0, 0⟩, by rw [hb]; rfl, rfl, by rw [hb]; rfl⟩

end Go.Proofs

/-
  Walks of layer 13: a book put.
-/
import Derived.Test.YtfpoclhenokhhaaGreatW27H
import Derived.Test.YtfpoclhenokhhaaGreatW27S
import Derived.Test.YtfpoclhenokhhaaGreatW27O
import Derived.Test.YtfpoclhenokhhaaGreatW27R
namespace Go.Proofs
open Go Go.Eng
set_option maxRecDepth 100000
set_option maxHeartbeats 4000000
attribute [local irreducible] Tri

theorem Tryz.snapPut_w (b : Bk) (A : BkA) (w : World) (hi : BkIn b) (ho : BkOk w b A) (hs : b.S.length ≤ 65536) :
    Fun Tryz.prog 8 [.agg ⟨bkV b A⟩] w (.tuple #[str (if mayB b then bookB b else []), .int .i64 (if mayB b then 0 else 1)]) := by
  refine Tri.enter (bx := []) (hp := []) Tryz.func8 rfl (by kernel_rfl) rfl (Own.nil w) ?_
  refine At.run 100 true [] [] rfl trivial ?_
  refine At.step [] rfl rfl rfl rfl rfl trivial (OpOk.box rfl rfl rfl fun bq hbq => ?_)
  have hM : ∀ {bx : Bx} {hp : List Seg}, CallOb Tryz.prog ⟨w, kys [] []⟩ bx hp 14 [.agg ⟨bkV b A⟩] (.bool (mayB b)) := fun {_ _} w' hw' => Tryz.May_w b A w' hi (ho.ext hw'.ext (by simp [kys]))
  cases hm : mayB b with
  | false =>
    rw [hm] at hM
    refine At.run 100 true [true] [hB 0, hC (.bool false)] rfl (by (repeat' apply And.intro) <;> first | exact hM | exact True.intro | omega | rfl | (simp only [inK]; omega) | exact decide_eq_true (by omega) | exact decide_eq_false (by omega) | (simp; done) | (simp; omega) | (simp [Value.oneCell']; done) | exact i64s_one _ | exact AggOk.mk (by kernel_rfl) (by kernel_rfl)) ?_
    exact At.retK [] [] [] rfl rfl Tryz.func8 rfl trivial ⟨rfl, rfl, rfl⟩
  | true =>
    rw [hm] at hM
    obtain ⟨n, hn, hn2, hl1, hl3, hl4⟩ : ∃ n : Nat, b.c = n ∧ n ≤ 1099511627776 ∧ b.H.length ≤ 32 ∧ b.O.length ≤ 64 ∧ b.R.length ≤ 32 := by
      simp only [mayB, listsB, Bool.and_eq_true, decide_eq_true_eq] at hm
      exact ⟨b.c.toNat, by omega, by omega, hm.1.1, hm.1.2.1, hm.1.2.2.1⟩
    have hN : ∀ {bx : Bx} {hp : List Seg}, CallOb Tryz.prog ⟨w, kys [] []⟩ bx hp 15 [.int .u64 b.c] (str (numL n)) := fun {_ _} w' hw' => by rw [hn]; exact Tryz.num_w n (by omega) w'
    have hnl := numL_len10 n (by omega)
    have hbk : bookB b = numL n ++ (putB 4 b.H ++ (putB 3 b.S ++ (putB 6 b.O ++ putB 2 b.R))) := by unfold bookB; rw [hn]; rfl
    refine At.run 100 true [false] [hB 0, hC (.bool true), hB 0, hC (str (numL n))] rfl (by (repeat' apply And.intro) <;> first | exact hM | exact hN | exact True.intro | omega | rfl | (simp only [inK]; omega) | exact decide_eq_true (by omega) | exact decide_eq_false (by omega) | (simp; done) | (simp; omega) | (simp [Value.oneCell']; done) | exact i64s_one _ | exact AggOk.mk (by kernel_rfl) (by kernel_rfl)) ?_
    refine At.step [] rfl rfl rfl rfl rfl trivial (OpOk.toBytes rfl rfl rfl rfl rfl (by rw [bl_mk]; omega) fun g0 cap0 => ?_)
    rw [bl_mk]
    refine At.run 100 true [] [] rfl (by (repeat' apply And.intro) <;> first | exact True.intro | omega | (simp only [inK]; omega) | (simp; done) | (simp; omega) | exact decide_eq_true (by omega) | exact decide_eq_false (by omega) | rfl | (simp [Value.oneCell']; done) | exact i64s_one _ | exact AggOk.mk (by kernel_rfl) (by kernel_rfl)) ?_
    refine At.weak (env' := [(1, .pointer (some ⟨bq, 0, none⟩)), (4, sv (some g0) (numL n).length cap0)]) ?_ ⟨rfl, rfl, trivial⟩
    have hout0 : (numL n).length ≤ 10 := hnl
    have hb0 : (numL n).length ≤ 10 := by
      try simp only [List.length_append]

      omega
    refine At.cutRow (ι := Option Nat × Nat) ⟨1, [0, 1, 1, 1], []⟩ 0 (fun i => [(1, .pointer (some ⟨bq, 0, none⟩)), (4, sv i.1 (numL n ++ putB 4 b.H).length i.2)]) (fun _ => [(bq, 27, bkV b A)]) (fun i => Seg.row i.1 5 1 (numL n ++ putB 4 b.H).length i.2 (u8s (numL n ++ putB 4 b.H))) ?_ (fun hs0 => ?_)
    · rintro ⟨g1, cap1⟩
      have hb1 : (numL n ++ putB 4 b.H).length ≤ 5242930 := by
        try simp only [List.length_append]
        have := putB_len hi.r1 (by omega : b.H.length ≤ 65536) 4
        omega
      refine At.cutRow (ι := Option Nat × Nat) ⟨1, [0, 1, 1, 1, 1], []⟩ 0 (fun i => [(1, .pointer (some ⟨bq, 0, none⟩)), (4, sv i.1 (numL n ++ putB 4 b.H ++ putB 3 b.S).length i.2)]) (fun _ => [(bq, 27, bkV b A)]) (fun i => Seg.row i.1 5 1 (numL n ++ putB 4 b.H ++ putB 3 b.S).length i.2 (u8s (numL n ++ putB 4 b.H ++ putB 3 b.S))) ?_ (fun hs1 => ?_)
      · rintro ⟨g2, cap2⟩
        have hb2 : (numL n ++ putB 4 b.H ++ putB 3 b.S).length ≤ 9175120 := by
          try simp only [List.length_append]
          have := putB_len hi.r1 (by omega : b.H.length ≤ 65536) 4
          have := putB_len hi.r2 (by omega : b.S.length ≤ 65536) 3
          omega
        refine At.cutRow (ι := Option Nat × Nat) ⟨1, [0, 1, 1, 1, 1, 1], []⟩ 0 (fun i => [(1, .pointer (some ⟨bq, 0, none⟩)), (4, sv i.1 (numL n ++ putB 4 b.H ++ putB 3 b.S ++ putB 6 b.O).length i.2)]) (fun _ => [(bq, 27, bkV b A)]) (fun i => Seg.row i.1 5 1 (numL n ++ putB 4 b.H ++ putB 3 b.S ++ putB 6 b.O).length i.2 (u8s (numL n ++ putB 4 b.H ++ putB 3 b.S ++ putB 6 b.O))) ?_ (fun hs2 => ?_)
        · rintro ⟨g3, cap3⟩
          have hb3 : (numL n ++ putB 4 b.H ++ putB 3 b.S ++ putB 6 b.O).length ≤ 17039500 := by
            try simp only [List.length_append]
            have := putB_len hi.r1 (by omega : b.H.length ≤ 65536) 4
            have := putB_len hi.r2 (by omega : b.S.length ≤ 65536) 3
            have := putB_len hi.r3 (by omega : b.O.length ≤ 65536) 6
            omega
          refine At.cutRow (ι := Option Nat × Nat) ⟨1, [0, 1, 1, 1, 1, 1, 1], []⟩ 0 (fun i => [(1, .pointer (some ⟨bq, 0, none⟩)), (4, sv i.1 (numL n ++ putB 4 b.H ++ putB 3 b.S ++ putB 6 b.O ++ putB 2 b.R).length i.2)]) (fun _ => [(bq, 27, bkV b A)]) (fun i => Seg.row i.1 5 1 (numL n ++ putB 4 b.H ++ putB 3 b.S ++ putB 6 b.O ++ putB 2 b.R).length i.2 (u8s (numL n ++ putB 4 b.H ++ putB 3 b.S ++ putB 6 b.O ++ putB 2 b.R))) ?_ (fun hs3 => ?_)
          · rintro ⟨g4, cap4⟩
            refine At.run 100 true [] [] rfl trivial ?_
            refine At.step [] rfl rfl rfl rfl rfl trivial (OpOk.toStr (l := numL n ++ putB 4 b.H ++ putB 3 b.S ++ putB 6 b.O ++ putB 2 b.R) 0 rfl rfl rfl rfl rfl rfl ?_)
            refine At.run 100 true [] [] rfl trivial ?_
            exact At.retK [] [] [] rfl rfl Tryz.func8 rfl trivial ⟨by rw [hbk]; simp only [List.append_assoc]; rfl, rfl, rfl⟩
          · refine At.run 100 true [] [] rfl trivial ?_
            refine At.draw 6 rfl rfl rfl rfl ?_
            refine AtD.pures (ob := True) true (by kernel_rfl) [0, 1] (fuel := 4) (by kernel_rfl) rfl (by (repeat' apply And.intro) <;> first | exact True.intro | omega | (simp only [inK]; omega) | (simp; done) | (simp; omega) | exact decide_eq_true (by omega) | exact decide_eq_false (by omega) | rfl | (simp [Value.oneCell']; done) | exact i64s_one _ | exact AggOk.mk (by kernel_rfl) (by kernel_rfl)) ?_
            refine AtD.fork2 2 3 (by kernel_rfl) ?_ ?_
            · refine StepD.by [] rfl rfl rfl rfl trivial (OpOk.one true [] [hB 0] rfl rfl ?_)
              refine AtD.fork1 3 (by kernel_rfl) (StepD.by [] rfl rfl rfl rfl trivial (OpOk.call rfl (fun w' _ => Tryz.rates_w w') ?_))
              rintro v bx' hp' ⟨gf, rfl, rfl, rfl⟩
              refine AtD.fork1 4 (by kernel_rfl) (StepD.by [] rfl rfl rfl rfl trivial (OpOk.callO [] [true] rfl rfl (fun w' hw' hown => Tryz.snapPutRate_w (numL n ++ putB 4 b.H ++ putB 3 b.S ++ putB 6 b.O) (g3) (cap3) b.R A.a4 A.c4 gf w' hi.r4 (by omega) (by have := hb3; omega) (ho.ext hw'.ext (by simp [kys])).h4 (hw'.bx (gf, _, Tryz.ratesL) (List.mem_cons_self ..)) hown (notKey hw') (fun k hk hk2 => baseKey hw' ((ho.h4).ltR k hk) hk2)) ?_))
              rintro v bx' hp' ⟨og', oc', rfl, rfl, rfl⟩
              refine AtD.pures (ob := True) true (by kernel_rfl) [5] (fuel := 0) (by kernel_rfl) rfl trivial ?_
              refine AtD.done (by kernel_rfl) ?_
              refine At.keep [false, true] [true] rfl ?_
              exact At.weak (hs3 (og', oc')) ⟨rfl, rfl, trivial⟩
            · refine StepD.by [] rfl rfl rfl rfl trivial (OpOk.call rfl (fun w' _ => Tryz.rates_w w') ?_)
              rintro v bx' hp' ⟨gf, rfl, rfl, rfl⟩
              refine AtD.fork1 2 (by kernel_rfl) (StepD.by [] rfl rfl rfl rfl trivial (OpOk.one true [] [hB 1] rfl rfl ?_))
              refine AtD.fork1 4 (by kernel_rfl) (StepD.by [] rfl rfl rfl rfl trivial (OpOk.callO [] [true] rfl rfl (fun w' hw' hown => Tryz.snapPutRate_w (numL n ++ putB 4 b.H ++ putB 3 b.S ++ putB 6 b.O) (g3) (cap3) b.R A.a4 A.c4 gf w' hi.r4 (by omega) (by have := hb3; omega) (ho.ext hw'.ext (by simp [kys])).h4 (hw'.bx (gf, _, Tryz.ratesL) (List.mem_cons_self ..)) hown (notKey hw') (fun k hk hk2 => baseKey hw' ((ho.h4).ltR k hk) hk2)) ?_))
              rintro v bx' hp' ⟨og', oc', rfl, rfl, rfl⟩
              refine AtD.pures (ob := True) true (by kernel_rfl) [5] (fuel := 0) (by kernel_rfl) rfl trivial ?_
              refine AtD.done (by kernel_rfl) ?_
              refine At.keep [false, true] [true] rfl ?_
              exact At.weak (hs3 (og', oc')) ⟨rfl, rfl, trivial⟩
        · refine At.run 100 true [] [] rfl trivial ?_
          refine At.draw 6 rfl rfl rfl rfl ?_
          refine AtD.pures (ob := True) true (by kernel_rfl) [0, 1] (fuel := 4) (by kernel_rfl) rfl (by (repeat' apply And.intro) <;> first | exact True.intro | omega | (simp only [inK]; omega) | (simp; done) | (simp; omega) | exact decide_eq_true (by omega) | exact decide_eq_false (by omega) | rfl | (simp [Value.oneCell']; done) | exact i64s_one _ | exact AggOk.mk (by kernel_rfl) (by kernel_rfl)) ?_
          refine AtD.fork2 2 3 (by kernel_rfl) ?_ ?_
          · refine StepD.by [] rfl rfl rfl rfl trivial (OpOk.one true [] [hB 0] rfl rfl ?_)
            refine AtD.fork1 3 (by kernel_rfl) (StepD.by [] rfl rfl rfl rfl trivial (OpOk.call rfl (fun w' _ => Tryz.opens_w w') ?_))
            rintro v bx' hp' ⟨gf, rfl, rfl, rfl⟩
            refine AtD.fork1 4 (by kernel_rfl) (StepD.by [] rfl rfl rfl rfl trivial (OpOk.callO [] [true] rfl rfl (fun w' hw' hown => Tryz.snapPutOpen_w (numL n ++ putB 4 b.H ++ putB 3 b.S) (g2) (cap2) b.O A.a3 A.c3 gf w' hi.r3 (by omega) (by have := hb2; omega) (ho.ext hw'.ext (by simp [kys])).h3 (hw'.bx (gf, _, Tryz.opensL) (List.mem_cons_self ..)) hown (notKey hw') (fun k hk hk2 => baseKey hw' ((ho.h3).ltR k hk) hk2)) ?_))
            rintro v bx' hp' ⟨og', oc', rfl, rfl, rfl⟩
            refine AtD.pures (ob := True) true (by kernel_rfl) [5] (fuel := 0) (by kernel_rfl) rfl trivial ?_
            refine AtD.done (by kernel_rfl) ?_
            refine At.keep [false, true] [true] rfl ?_
            exact At.weak (hs2 (og', oc')) ⟨rfl, rfl, trivial⟩
          · refine StepD.by [] rfl rfl rfl rfl trivial (OpOk.call rfl (fun w' _ => Tryz.opens_w w') ?_)
            rintro v bx' hp' ⟨gf, rfl, rfl, rfl⟩
            refine AtD.fork1 2 (by kernel_rfl) (StepD.by [] rfl rfl rfl rfl trivial (OpOk.one true [] [hB 1] rfl rfl ?_))
            refine AtD.fork1 4 (by kernel_rfl) (StepD.by [] rfl rfl rfl rfl trivial (OpOk.callO [] [true] rfl rfl (fun w' hw' hown => Tryz.snapPutOpen_w (numL n ++ putB 4 b.H ++ putB 3 b.S) (g2) (cap2) b.O A.a3 A.c3 gf w' hi.r3 (by omega) (by have := hb2; omega) (ho.ext hw'.ext (by simp [kys])).h3 (hw'.bx (gf, _, Tryz.opensL) (List.mem_cons_self ..)) hown (notKey hw') (fun k hk hk2 => baseKey hw' ((ho.h3).ltR k hk) hk2)) ?_))
            rintro v bx' hp' ⟨og', oc', rfl, rfl, rfl⟩
            refine AtD.pures (ob := True) true (by kernel_rfl) [5] (fuel := 0) (by kernel_rfl) rfl trivial ?_
            refine AtD.done (by kernel_rfl) ?_
            refine At.keep [false, true] [true] rfl ?_
            exact At.weak (hs2 (og', oc')) ⟨rfl, rfl, trivial⟩
      · refine At.run 100 true [] [] rfl trivial ?_
        refine At.draw 6 rfl rfl rfl rfl ?_
        refine AtD.pures (ob := True) true (by kernel_rfl) [0, 1] (fuel := 4) (by kernel_rfl) rfl (by (repeat' apply And.intro) <;> first | exact True.intro | omega | (simp only [inK]; omega) | (simp; done) | (simp; omega) | exact decide_eq_true (by omega) | exact decide_eq_false (by omega) | rfl | (simp [Value.oneCell']; done) | exact i64s_one _ | exact AggOk.mk (by kernel_rfl) (by kernel_rfl)) ?_
        refine AtD.fork2 2 3 (by kernel_rfl) ?_ ?_
        · refine StepD.by [] rfl rfl rfl rfl trivial (OpOk.one true [] [hB 0] rfl rfl ?_)
          refine AtD.fork1 3 (by kernel_rfl) (StepD.by [] rfl rfl rfl rfl trivial (OpOk.call rfl (fun w' _ => Tryz.stakes_w w') ?_))
          rintro v bx' hp' ⟨gf, rfl, rfl, rfl⟩
          refine AtD.fork1 4 (by kernel_rfl) (StepD.by [] rfl rfl rfl rfl trivial (OpOk.callO [] [true] rfl rfl (fun w' hw' hown => Tryz.snapPutStake_w (numL n ++ putB 4 b.H) (g1) (cap1) b.S A.a2 A.c2 gf w' hi.r2 (by omega) (by have := hb1; omega) (ho.ext hw'.ext (by simp [kys])).h2 (hw'.bx (gf, _, Tryz.stakesL) (List.mem_cons_self ..)) hown (notKey hw') (fun k hk hk2 => baseKey hw' ((ho.h2).ltR k hk) hk2)) ?_))
          rintro v bx' hp' ⟨og', oc', rfl, rfl, rfl⟩
          refine AtD.pures (ob := True) true (by kernel_rfl) [5] (fuel := 0) (by kernel_rfl) rfl trivial ?_
          refine AtD.done (by kernel_rfl) ?_
          refine At.keep [false, true] [true] rfl ?_
          exact At.weak (hs1 (og', oc')) ⟨rfl, rfl, trivial⟩
        · refine StepD.by [] rfl rfl rfl rfl trivial (OpOk.call rfl (fun w' _ => Tryz.stakes_w w') ?_)
          rintro v bx' hp' ⟨gf, rfl, rfl, rfl⟩
          refine AtD.fork1 2 (by kernel_rfl) (StepD.by [] rfl rfl rfl rfl trivial (OpOk.one true [] [hB 1] rfl rfl ?_))
          refine AtD.fork1 4 (by kernel_rfl) (StepD.by [] rfl rfl rfl rfl trivial (OpOk.callO [] [true] rfl rfl (fun w' hw' hown => Tryz.snapPutStake_w (numL n ++ putB 4 b.H) (g1) (cap1) b.S A.a2 A.c2 gf w' hi.r2 (by omega) (by have := hb1; omega) (ho.ext hw'.ext (by simp [kys])).h2 (hw'.bx (gf, _, Tryz.stakesL) (List.mem_cons_self ..)) hown (notKey hw') (fun k hk hk2 => baseKey hw' ((ho.h2).ltR k hk) hk2)) ?_))
          rintro v bx' hp' ⟨og', oc', rfl, rfl, rfl⟩
          refine AtD.pures (ob := True) true (by kernel_rfl) [5] (fuel := 0) (by kernel_rfl) rfl trivial ?_
          refine AtD.done (by kernel_rfl) ?_
          refine At.keep [false, true] [true] rfl ?_
          exact At.weak (hs1 (og', oc')) ⟨rfl, rfl, trivial⟩
    · refine At.run 100 true [] [] rfl trivial ?_
      refine At.draw 6 rfl rfl rfl rfl ?_
      refine AtD.pures (ob := True) true (by kernel_rfl) [0, 1] (fuel := 4) (by kernel_rfl) rfl (by (repeat' apply And.intro) <;> first | exact True.intro | omega | (simp only [inK]; omega) | (simp; done) | (simp; omega) | exact decide_eq_true (by omega) | exact decide_eq_false (by omega) | rfl | (simp [Value.oneCell']; done) | exact i64s_one _ | exact AggOk.mk (by kernel_rfl) (by kernel_rfl)) ?_
      refine AtD.fork2 2 3 (by kernel_rfl) ?_ ?_
      · refine StepD.by [] rfl rfl rfl rfl trivial (OpOk.one true [] [hB 0] rfl rfl ?_)
        refine AtD.fork1 3 (by kernel_rfl) (StepD.by [] rfl rfl rfl rfl trivial (OpOk.call rfl (fun w' _ => Tryz.holders_w w') ?_))
        rintro v bx' hp' ⟨gf, rfl, rfl, rfl⟩
        refine AtD.fork1 4 (by kernel_rfl) (StepD.by [] rfl rfl rfl rfl trivial (OpOk.callO [] [true] rfl rfl (fun w' hw' hown => Tryz.snapPutHolder_w (numL n) (some g0) (cap0) b.H A.a1 A.c1 gf w' hi.r1 (by omega) (by have := hb0; omega) (ho.ext hw'.ext (by simp [kys])).h1 (hw'.bx (gf, _, Tryz.holdersL) (List.mem_cons_self ..)) hown (notKey hw') (fun k hk hk2 => baseKey hw' ((ho.h1).ltR k hk) hk2)) ?_))
        rintro v bx' hp' ⟨og', oc', rfl, rfl, rfl⟩
        refine AtD.pures (ob := True) true (by kernel_rfl) [5] (fuel := 0) (by kernel_rfl) rfl trivial ?_
        refine AtD.done (by kernel_rfl) ?_
        refine At.keep [false, true] [true] rfl ?_
        exact At.weak (hs0 (og', oc')) ⟨rfl, rfl, trivial⟩
      · refine StepD.by [] rfl rfl rfl rfl trivial (OpOk.call rfl (fun w' _ => Tryz.holders_w w') ?_)
        rintro v bx' hp' ⟨gf, rfl, rfl, rfl⟩
        refine AtD.fork1 2 (by kernel_rfl) (StepD.by [] rfl rfl rfl rfl trivial (OpOk.one true [] [hB 1] rfl rfl ?_))
        refine AtD.fork1 4 (by kernel_rfl) (StepD.by [] rfl rfl rfl rfl trivial (OpOk.callO [] [true] rfl rfl (fun w' hw' hown => Tryz.snapPutHolder_w (numL n) (some g0) (cap0) b.H A.a1 A.c1 gf w' hi.r1 (by omega) (by have := hb0; omega) (ho.ext hw'.ext (by simp [kys])).h1 (hw'.bx (gf, _, Tryz.holdersL) (List.mem_cons_self ..)) hown (notKey hw') (fun k hk hk2 => baseKey hw' ((ho.h1).ltR k hk) hk2)) ?_))
        rintro v bx' hp' ⟨og', oc', rfl, rfl, rfl⟩
        refine AtD.pures (ob := True) true (by kernel_rfl) [5] (fuel := 0) (by kernel_rfl) rfl trivial ?_
        refine AtD.done (by kernel_rfl) ?_
        refine At.keep [false, true] [true] rfl ?_
        exact At.weak (hs0 (og', oc')) ⟨rfl, rfl, trivial⟩
end Go.Proofs

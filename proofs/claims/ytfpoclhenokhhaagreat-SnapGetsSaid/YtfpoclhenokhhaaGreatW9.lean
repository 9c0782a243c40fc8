/-
  Walks of layer 11: columns read.
-/
import Derived.Test.YtfpoclhenokhhaaGreatW7
import Derived.Test.YtfpoclhenokhhaaGreatW4
namespace Go.Proofs
open Go Go.Eng
set_option maxRecDepth 100000
set_option maxHeartbeats 4000000
attribute [local irreducible] Tri


/-- add: so many steps behind the column. -/
theorem Tryz.add_w (d last : Int) (n lack : Nat) (out : List Int) (b1 b2 b3 : Nat) (a : Option Nat) (cap : Nat) (w : World) (hn : n ≤ lack) (hl : lack < 18446744073709551616) (hb : out.length + n ≤ 1000000)
    (hown : Own [(b1, 2, [.int .i64 last]), (b2, 77, [sv a out.length cap]), (b3, 43, [.int .u64 lack])] [Seg.row a 2 1 out.length cap (i64s out)] w) :
    Tri Tryz.prog 113 [.int .i64 d, .int .u64 n, .pointer (some ⟨b1, 0, none⟩), .pointer (some ⟨b2, 0, none⟩), .pointer (some ⟨b3, 0, none⟩)] w
      (kys [(b1, 2, [.int .i64 last]), (b2, 77, [sv a out.length cap]), (b3, 43, [.int .u64 lack])] [Seg.row a 2 1 out.length cap (i64s out)])
      (fun v bx hp => ∃ a' cap', v = .tuple #[] ∧ bx = [(b1, 2, [.int .i64 (stepsE last d n)]), (b2, 77, [sv a' (out ++ stepsL last d n).length cap']), (b3, 43, [.int .u64 (lack - n : Nat)])] ∧
        hp = [Seg.row a' 2 1 (out ++ stepsL last d n).length cap' (i64s (out ++ stepsL last d n))]) := by
  refine Tri.enter Tryz.func113 rfl (by kernel_rfl) rfl hown ?_
  refine At.run 100 true [] [] rfl trivial ?_
  refine At.loop (n := n) (env0 := [(0, .int .i64 d), (1, .int .u64 n), (2, .pointer (some ⟨b1, 0, none⟩)), (3, .pointer (some ⟨b2, 0, none⟩)), (4, .pointer (some ⟨b3, 0, none⟩)), (7, .int .u64 n), (8, .int .u64 0)])
    (fun m env bx hp => ∃ (i : Nat) (a' : Option Nat) (cap' : Nat), m = n - i ∧ i ≤ n ∧ env = [(0, .int .i64 d), (1, .int .u64 n), (2, .pointer (some ⟨b1, 0, none⟩)), (3, .pointer (some ⟨b2, 0, none⟩)), (4, .pointer (some ⟨b3, 0, none⟩)), (7, .int .u64 n), (8, .int .u64 i)] ∧
      bx = [(b1, 2, [.int .i64 (stepsE last d i)]), (b2, 77, [sv a' (out ++ stepsL last d i).length cap']), (b3, 43, [.int .u64 lack])] ∧ hp = [Seg.row a' 2 1 (out ++ stepsL last d i).length cap' (i64s (out ++ stepsL last d i))]) rfl
    ⟨0, a, cap, by simp, by omega, rfl, by simp [stepsE, stepsL], by simp [stepsL]⟩ ⟨rfl, rfl, rfl, rfl, rfl, rfl, rfl, trivial⟩ ?_
  rintro m env bx hp ⟨i, a', cap', rfl, hi, rfl, rfl, rfl⟩ ih
  by_cases hlt : i < n
  · have hsl := stepsL_len last d i
    have hol : (out ++ stepsL last d i).length = out.length + i := by simp [hsl]
    refine At.run 100 false [true] [hB 0, hB 0, hB 1, hB 0] rfl (by (repeat' apply And.intro) <;> first | exact True.intro | omega | (simp only [inK]; omega) | (simp; done) | (simp; omega) | exact decide_eq_true (by omega) | exact decide_eq_false (by omega) | rfl | (simp [Value.oneCell']; done) | exact i64s_one _ | exact AggOk.mk (by kernel_rfl) (by kernel_rfl)) ?_
    refine At.append1 0 1 8 rfl rfl rfl rfl rfl rfl rfl rfl rfl trivial (fun _ => rfl) trivial rfl rfl rfl rfl rfl rfl rfl rfl (fun _ => rfl) (by simp [Value.oneCell']) (by omega) (by omega) (fun bb a2 cap2 => ?_)
    refine At.run 100 true [] [hB 1] rfl (by (repeat' apply And.intro) <;> first | exact True.intro | omega | (simp only [inK]; omega) | (simp; done) | (simp; omega) | exact decide_eq_true (by omega) | exact decide_eq_false (by omega) | rfl | (simp [Value.oneCell']; done) | exact i64s_one _ | exact AggOk.mk (by kernel_rfl) (by kernel_rfl)) ?_
    refine At.weak (ih (n - (i + 1)) _ _ _ (by omega) ⟨i + 1, a2, cap2, rfl, by omega, rfl, ?_, ?_⟩) ⟨rfl, rfl, rfl, rfl, rfl, rfl, some_int_eq (by omega), trivial⟩
    · rw [stepsE_snoc, stepsL_snoc]; simp [Nat.add_assoc]
    · rw [stepsL_snoc]; simp [setL, i64s, Nat.add_assoc]
  · have : i = n := by omega
    subst this
    refine At.run 100 true [false] [hB 2, hB 2] rfl (by (repeat' apply And.intro) <;> first | exact True.intro | omega | (simp only [inK]; omega) | (simp; done) | (simp; omega) | exact decide_eq_true (by omega) | exact decide_eq_false (by omega) | rfl | (simp [Value.oneCell']; done) | exact i64s_one _ | exact AggOk.mk (by kernel_rfl) (by kernel_rfl)) ?_
    refine At.ret [] rfl Tryz.func113 rfl trivial ⟨a', cap', rfl, ?_, rfl⟩
    rw [show ((lack : Int) - (i : Int)) = ((lack - i : Nat) : Int) by omega]


theorem Tryz.ColGet_bad (s : ByteArray) (most : Int) (w : World) (hm : most < 0 ∨ 65536 < most) : Fun Tryz.prog 88 [.string s, .int .i64 most] w (.tuple #[sv none 0 0, .int .i64 0, .int .i64 1]) := by
  refine Tri.enter (bx := []) (hp := []) Tryz.func88 rfl (by kernel_rfl) rfl (Own.nil w) ?_
  by_cases h0 : most < 0
  · refine At.run 100 true [true, true] [] rfl (by (repeat' apply And.intro) <;> first | exact True.intro | omega | (simp only [inK]; omega) | (simp; done) | (simp; omega) | exact decide_eq_true (by omega) | exact decide_eq_false (by omega) | rfl | (simp [Value.oneCell']; done) | exact i64s_one _ | exact AggOk.mk (by kernel_rfl) (by kernel_rfl)) ?_
    exact At.ret [] rfl Tryz.func88 rfl trivial ⟨rfl, rfl, rfl⟩
  · refine At.run 100 true [false, true] [] rfl (by (repeat' apply And.intro) <;> first | exact True.intro | omega | (simp only [inK]; omega) | (simp; done) | (simp; omega) | exact decide_eq_true (by omega) | exact decide_eq_false (by omega) | rfl | (simp [Value.oneCell']; done) | exact i64s_one _ | exact AggOk.mk (by kernel_rfl) (by kernel_rfl)) ?_
    exact At.ret [] rfl Tryz.func88 rfl trivial ⟨rfl, rfl, rfl⟩

theorem Tryz.ColGet_w (s : ByteArray) (most : Nat) (w : World) (hm : most ≤ 65536) (hlen : (bl s).length ≤ 9223372036854775807) :
    Tri Tryz.prog 88 [.string s, .int .i64 most] w [] (fun v bx hp => ∃ a cap, v = .tuple #[sv a (colG (bl s) most).1.length cap, .int .i64 (colG (bl s) most).2.1, .int .i64 (colG (bl s) most).2.2] ∧ bx = [] ∧
      hp = [Seg.row a 2 1 (colG (bl s) most).1.length cap (i64s (colG (bl s) most).1)]) := by
  refine Tri.enter (bx := []) (hp := []) Tryz.func88 rfl (by kernel_rfl) rfl (Own.nil w) ?_
  refine At.run 100 true [false, false] [] rfl (by (repeat' apply And.intro) <;> first | exact True.intro | omega | (simp only [inK]; omega) | (simp; done) | (simp; omega) | exact decide_eq_true (by omega) | exact decide_eq_false (by omega) | rfl | (simp [Value.oneCell']; done) | exact i64s_one _ | exact AggOk.mk (by kernel_rfl) (by kernel_rfl)) ?_
  refine At.step [] rfl rfl rfl rfl rfl trivial (OpOk.call rfl (fun w' hw' => Tryz.Read_w s w') ?_)
  rintro v bx' hp' ⟨b, rfl, rfl, rfl⟩
  have hN0 := rdN_lt (bl s) 0 0 most
  have hE0 := rdN_e (bl s) 0 0 most (by omega)
  have hA0 := rdN_a (l := bl s) (a := 0) (f := 0) (most := most) (by omega)
  refine At.run 100 true [] [hU (.int .u64 (rdN (bl s) 0 0 most).1) 0 (rdr s (rdN (bl s) 0 0 most).2.1 (rdN (bl s) 0 0 most).2.2)] rfl ⟨fun w' hw' => Tryz.Num_w s 0 0 b most w' (by omega) hlen (Own.head hw'.toOwn), by simp only [inK]; omega, trivial⟩ ?_
  refine At.step [] rfl rfl rfl rfl rfl trivial (OpOk.alloc (cs := [.int .u64 0]) rfl (by kernel_rfl) fun bk hbk => ?_)
  refine At.run 100 true [] [hB 0] rfl (by (repeat' apply And.intro) <;> first | exact True.intro | omega | (simp only [inK]; omega) | (simp; done) | (simp; omega) | exact decide_eq_true (by omega) | exact decide_eq_false (by omega) | rfl | (simp [Value.oneCell']; done) | exact i64s_one _ | exact AggOk.mk (by kernel_rfl) (by kernel_rfl)) ?_
  refine At.step [] rfl rfl rfl rfl rfl trivial (OpOk.alloc (cs := [sv none 0 0]) rfl (by kernel_rfl) fun bo hbo => ?_)
  refine At.run 100 true [] [] rfl (by (repeat' apply And.intro) <;> first | exact True.intro | omega | (simp only [inK]; omega) | (simp; done) | (simp; omega) | exact decide_eq_true (by omega) | exact decide_eq_false (by omega) | rfl | (simp [Value.oneCell']; done) | exact i64s_one _ | exact AggOk.mk (by kernel_rfl) (by kernel_rfl)) ?_
  refine At.step [] rfl rfl rfl rfl rfl trivial (OpOk.alloc (cs := [.int .i64 0]) rfl (by kernel_rfl) fun bla hbla => ?_)
  refine At.run 100 true [] [hB 0] rfl (by (repeat' apply And.intro) <;> first | exact True.intro | omega | (simp only [inK]; omega) | (simp; done) | (simp; omega) | exact decide_eq_true (by omega) | exact decide_eq_false (by omega) | rfl | (simp [Value.oneCell']; done) | exact i64s_one _ | exact AggOk.mk (by kernel_rfl) (by kernel_rfl)) ?_
  refine At.nilRow 2 1 ?_
  refine At.loop (n := 2 * (rdN (bl s) 0 0 most).1 + (if (rdN (bl s) 0 0 most).2.2 = 0 then 1 else 0)) (env0 := [(0, .string s), (7, .pointer (some ⟨b, 0, none⟩)), (8, .pointer (some ⟨bk, 0, none⟩)), (9, .pointer (some ⟨bo, 0, none⟩)), (11, .func (.func 113) ⟨[]⟩ ⟨[.pointer (some ⟨bla, 0, none⟩), .pointer (some ⟨bo, 0, none⟩), .pointer (some ⟨bk, 0, none⟩)]⟩), (12, .bool true), (13, .int .i64 0)])
    (fun m env bx hp => ∃ (fuel a lack : Nat) (f last was : Int) (first : Bool) (out : List Int) (aa : Option Nat) (cap : Nat), m = 2 * fuel + (if f = 0 then 1 else 0) ∧ lack ≤ fuel ∧ a ≤ (bl s).length ∧ 0 ≤ f ∧ f ≤ 4 ∧ out.length + lack ≤ most ∧
      (f = 0 → colG (bl s) most = colLoop (bl s) fuel a lack (if first then none else some was) last out) ∧ (f ≠ 0 → colG (bl s) most = ([], 0, f)) ∧
      env = [(0, .string s), (7, .pointer (some ⟨b, 0, none⟩)), (8, .pointer (some ⟨bk, 0, none⟩)), (9, .pointer (some ⟨bo, 0, none⟩)), (11, .func (.func 113) ⟨[]⟩ ⟨[.pointer (some ⟨bla, 0, none⟩), .pointer (some ⟨bo, 0, none⟩), .pointer (some ⟨bk, 0, none⟩)]⟩), (12, .bool first), (13, .int .i64 was)] ∧
      bx = [(bla, 2, [.int .i64 last]), (bo, 77, [sv aa out.length cap]), (bk, 43, [.int .u64 lack]), (b, 122, rdr s a f)] ∧ hp = [Seg.row aa 2 1 out.length cap (i64s out)]) rfl
    ⟨(rdN (bl s) 0 0 most).1, _, (rdN (bl s) 0 0 most).1, (rdN (bl s) 0 0 most).2.2, 0, 0, true, [], none, 0, rfl, Nat.le_refl _, hA0.2, hE0.1, hE0.2, by simpa using hN0.1, fun h => by rw [colG, if_neg (by simpa using h)]; rfl, fun h => by rw [colG, if_pos h], rfl, rfl, rfl⟩ ⟨rfl, rfl, rfl, rfl, rfl, rfl, rfl, trivial⟩ ?_
  clear hN0 hE0 hA0
  rintro m env bx hp ⟨fuel, a, lack, f, last, was, first, out, aa, cap, rfl, hfuel, ha, hf0, hf4, hsum, hc0, hc1, rfl, rfl, rfl⟩ ih
  have hFault : ∀ {l0 : Int} {o0 : Value} {k0 : Value} {a0 : Nat} {f0 : Int} {hp0 : List Seg}, CallOb Tryz.prog ⟨w, kys [] []⟩ [(bla, 2, [.int .i64 l0]), (bo, 77, [o0]), (bk, 43, [k0]), (b, 122, rdr s a0 f0)] hp0 29 [.pointer (some ⟨b, 0, none⟩)] (.int .i64 f0) :=
    by intro l0 o0 k0 a0 f0 hp0 w' hw'; exact Tryz.Fault_w s a0 f0 b w' (hw'.bx (b, _, rdr s a0 f0) (by simp))
  by_cases hend : 0 < lack ∧ f = 0
  · obtain ⟨hlk, rfl⟩ := hend
    have hcl := hc0 rfl
    obtain ⟨fuel', rfl⟩ : ∃ g, fuel = g + 1 := ⟨fuel - 1, by omega⟩
    rw [colLoop, if_neg (by omega)] at hcl
    have hI := rdI_in (bl s) a 0
    have hIa := rdI_a (l := bl s) (a := a) (f := 0) ha
    obtain ⟨d, a1, f1, hR1⟩ : ∃ d a1 f1, rdI (bl s) a 0 = (d, a1, f1) := ⟨_, _, _, rfl⟩
    have hIe := rdI_e (bl s) a 0 (by omega)
    simp only [hR1] at hI hIa hcl hIe
    have hN2 := rdN_lt (bl s) a1 f1 lack
    have ha2 := rdN_a (l := bl s) (a := a1) (f := f1) (most := lack) hIa.2
    have hNe := rdN_e (bl s) a1 f1 lack hIe
    have hk0 := @rdN_k0 (bl s) a1 f1 lack
    obtain ⟨k, a2, f2, hR2⟩ : ∃ k a2 f2, rdN (bl s) a1 f1 lack = (k, a2, f2) := ⟨_, _, _, rfl⟩
    simp only [hR2] at hN2 ha2 hNe hcl hk0
    have hcI : CallU Tryz.prog ⟨w, kys [] []⟩ [(bla, 2, [.int .i64 last]), (bo, 77, [sv aa out.length cap]), (bk, 43, [.int .u64 lack]), (b, 122, rdr s a 0)] [Seg.row aa 2 1 out.length cap (i64s out)] 114 [.pointer (some ⟨b, 0, none⟩)] (.int .i64 d) (b, 122, rdr s a1 f1) :=
      fun w' hw' => by have := Tryz.Int_w s a 0 b w' ha hlen (hw'.toOwn.sel [false, false, false, true] [] rfl); rw [hR1] at this; exact this
    have hcN : CallU Tryz.prog ⟨w, kys [] []⟩ [(bla, 2, [.int .i64 last]), (bo, 77, [sv aa out.length cap]), (bk, 43, [.int .u64 lack]), (b, 122, rdr s a1 f1)] [Seg.row aa 2 1 out.length cap (i64s out)] 27 [.pointer (some ⟨b, 0, none⟩), .int .u64 lack] (.int .u64 k) (b, 122, rdr s a2 f2) :=
      fun w' hw' => by have := Tryz.Num_w s a1 f1 b lack w' hIa.2 hlen (hw'.toOwn.sel [false, false, false, true] [] rfl); rw [hR2] at this; exact this
    have hcF : ∀ {f3 : Int}, CallU Tryz.prog ⟨w, kys [] []⟩ [(bla, 2, [.int .i64 last]), (bo, 77, [sv aa out.length cap]), (bk, 43, [.int .u64 lack]), (b, 122, rdr s a2 f3)] [Seg.row aa 2 1 out.length cap (i64s out)] 115 [.pointer (some ⟨b, 0, none⟩), .int .i64 3] (.tuple #[]) (b, 122, rdr s a2 (if f3 = 0 then 3 else f3)) :=
      fun w' hw' => Tryz.Fail_w s a2 _ 3 b w' (hw'.toOwn.sel [false, false, false, true] [] rfl)
    refine At.run 100 true [true, true] [hB 2, hC (.int .i64 0), hU (.int .i64 d) 3 (rdr s a1 f1), hB 2, hU (.int .u64 k) 3 (rdr s a2 f2)] rfl
      (by (repeat' apply And.intro) <;> first | exact hFault | exact hcI | exact hcN | exact True.intro | omega | rfl | (simp only [inK]; omega) | exact decide_eq_true (by omega) | exact decide_eq_false (by omega) | (simp; done) | (simp; omega) | (simp [Value.oneCell']; done) | exact i64s_one _ | exact AggOk.mk (by kernel_rfl) (by kernel_rfl)) ?_
    by_cases hf2 : f2 = 0
    · subst hf2
      rw [if_neg (by simp)] at hcl
      by_cases hkz : k = 0
      · subst hkz
        have hu : colG (bl s) most = ([], 0, 3) := by rw [hcl]; simp
        refine At.run 100 true [true, true, false] [hU (.tuple #[]) 3 (rdr s a2 3), hC (.int .i64 3)] rfl (by (repeat' apply And.intro) <;> first | exact hFault | exact hcF (f3 := 0) | exact True.intro | omega | rfl | (simp only [inK]; omega) | exact decide_eq_true (by omega) | exact decide_eq_false (by omega) | (simp; done) | (simp; omega) | (simp [Value.oneCell']; done) | exact i64s_one _ | exact AggOk.mk (by kernel_rfl) (by kernel_rfl)) ?_
        refine At.weak (ih (2 * (fuel' + 1)) _ _ _ (by simp) ⟨fuel' + 1, a2, lack, 3, last, d, false, out, aa, cap, by simp, hfuel, ha2.2, by omega, by omega, hsum, fun h => by omega, fun _ => hu, rfl, rfl, rfl⟩) ⟨rfl, rfl, rfl, rfl, rfl, rfl, rfl, trivial⟩
      · have dk : decide ((k : Int) = 0) = false := decide_eq_false (by omega)
        cases first with
        | true =>
          have hu := hcl
          rw [if_neg (by simp [hkz])] at hu
          refine At.run 100 true [false, false, false, true] [hC (.int .i64 0)] rfl (by (repeat' apply And.intro) <;> first | exact hFault | exact dk | exact True.intro | omega | rfl | (simp only [inK]; omega) | exact decide_eq_true (by omega) | exact decide_eq_false (by omega) | (simp; done) | (simp; omega) | (simp [Value.oneCell']; done) | exact i64s_one _ | exact AggOk.mk (by kernel_rfl) (by kernel_rfl)) ?_
          refine At.step [] rfl rfl rfl rfl rfl trivial (OpOk.callO [true, true, true, false] [true] rfl rfl (fun w' hw' ho => Tryz.add_w d last k lack out bla bo bk aa cap w' hN2.1 (by omega) (by omega) ho) ?_)
          rintro v bx' hp' ⟨a', cap', rfl, rfl, rfl⟩
          refine At.run 100 true [] [] rfl trivial ?_
          refine At.weak (ih (2 * fuel' + 1) _ _ _ (by simp) ⟨fuel', a2, lack - k, 0, stepsE last d k, d, false, out ++ stepsL last d k, a', cap', by simp, by omega, ha2.2, by omega, by omega, by rw [List.length_append, stepsL_len]; omega, fun _ => hu, fun h => (h rfl).elim, rfl, rfl, rfl⟩) ⟨rfl, rfl, rfl, rfl, rfl, rfl, rfl, trivial⟩
        | false =>
          by_cases hdw : d = was
          · subst hdw
            have hu : colG (bl s) most = ([], 0, 3) := by rw [hcl]; simp
            refine At.run 100 true [false, true, true, false] [hU (.tuple #[]) 3 (rdr s a2 3), hC (.int .i64 3)] rfl (by (repeat' apply And.intro) <;> first | exact hFault | exact hcF (f3 := 0) | exact True.intro | omega | rfl | (simp only [inK]; omega) | exact decide_eq_true (by omega) | exact decide_eq_false (by omega) | (simp; done) | (simp; omega) | (simp [Value.oneCell']; done) | exact i64s_one _ | exact AggOk.mk (by kernel_rfl) (by kernel_rfl)) ?_
            refine At.weak (ih (2 * (fuel' + 1)) _ _ _ (by simp) ⟨fuel' + 1, a2, lack, 3, last, d, false, out, aa, cap, by simp, hfuel, ha2.2, by omega, by omega, hsum, fun h => by omega, fun _ => hu, rfl, rfl, rfl⟩) ⟨rfl, rfl, rfl, rfl, rfl, rfl, rfl, trivial⟩
          · have hu := hcl
            rw [if_neg (by simp [hkz]; exact fun e => hdw e.symm)] at hu
            refine At.run 100 true [false, true, false, true] [hC (.int .i64 0)] rfl (by (repeat' apply And.intro) <;> first | exact hFault | exact dk | exact decide_eq_false hdw | exact True.intro | omega | rfl | (simp only [inK]; omega) | exact decide_eq_true (by omega) | exact decide_eq_false (by omega) | (simp; done) | (simp; omega) | (simp [Value.oneCell']; done) | exact i64s_one _ | exact AggOk.mk (by kernel_rfl) (by kernel_rfl)) ?_
            refine At.step [] rfl rfl rfl rfl rfl trivial (OpOk.callO [true, true, true, false] [true] rfl rfl (fun w' hw' ho => Tryz.add_w d last k lack out bla bo bk aa cap w' hN2.1 (by omega) (by omega) ho) ?_)
            rintro v bx' hp' ⟨a', cap', rfl, rfl, rfl⟩
            refine At.run 100 true [] [] rfl trivial ?_
            refine At.weak (ih (2 * fuel' + 1) _ _ _ (by simp) ⟨fuel', a2, lack - k, 0, stepsE last d k, d, false, out ++ stepsL last d k, a', cap', by simp, by omega, ha2.2, by omega, by omega, by rw [List.length_append, stepsL_len]; omega, fun _ => hu, fun h => (h rfl).elim, rfl, rfl, rfl⟩) ⟨rfl, rfl, rfl, rfl, rfl, rfl, rfl, trivial⟩
    · have hkz := hk0 hf2
      subst hkz
      have hu : colG (bl s) most = ([], 0, f2) := by rw [hcl, if_pos hf2]
      have hcF2 := hcF (f3 := f2)
      rw [if_neg hf2] at hcF2
      refine At.run 100 true [true, true, false] [hU (.tuple #[]) 3 (rdr s a2 f2), hC (.int .i64 f2)] rfl (by (repeat' apply And.intro) <;> first | exact hFault | exact hcF2 | exact True.intro | omega | rfl | (simp only [inK]; omega) | exact decide_eq_true (by omega) | exact decide_eq_false (by omega) | (simp; done) | (simp; omega) | (simp [Value.oneCell']; done) | exact i64s_one _ | exact AggOk.mk (by kernel_rfl) (by kernel_rfl)) ?_
      refine At.weak (ih (2 * (fuel' + 1)) _ _ _ (by simp) ⟨fuel' + 1, a2, lack, f2, last, d, false, out, aa, cap, by simp [hf2], hfuel, ha2.2, by omega, by omega, hsum, fun h => (hf2 h).elim, fun _ => hu, rfl, rfl, rfl⟩) ⟨rfl, rfl, rfl, rfl, rfl, rfl, rfl, trivial⟩
  · by_cases hlk : 0 < lack
    · refine At.run 100 true [true, false] [hB 2, hC (.int .i64 f)] rfl (by (repeat' apply And.intro) <;> first | exact hFault | exact True.intro | omega | rfl | (simp only [inK]; omega) | exact decide_eq_true (by omega) | exact decide_eq_false (by omega) | (simp; done) | (simp; omega) | (simp [Value.oneCell']; done) | exact i64s_one _ | exact AggOk.mk (by kernel_rfl) (by kernel_rfl)) ?_
      by_cases hf : f = 0
      · subst hf
        have hl0 : lack = 0 := by omega
        subst hl0
        have hG : colG (bl s) most = (out, a, 0) := by rw [hc0 rfl, colLoop_zero]
        refine At.run 100 true [false] [hC (.int .i64 0)] rfl ⟨rfl, hFault, trivial⟩ ?_
        refine At.quiet true [] [hB 1, hC (.int .i64 ((bl s).length - a : Nat))] ⟨by kernel_rfl, by kernel_rfl, rfl, rfl, rfl⟩ rfl rfl rfl ⟨by simp only [inK]; omega, fun w' hw' => Tryz.Left_w s a 0 b w' ha hlen (hw'.bx (b, _, rdr s _ _) (by simp)), rfl, trivial⟩ ?_
        refine At.run 100 true [] [] rfl trivial ?_
        refine At.keep [] [true] rfl ?_
        refine At.ret [] rfl Tryz.func88 rfl trivial ⟨aa, cap, ?_, rfl, ?_⟩
        · rw [hG]; simp only [tupV]; rw [show (((bl s).length : Int) - (((bl s).length - a : Nat) : Int)) = (a : Int) by omega]
        · rw [hG]
      · have hG := hc1 hf
        refine At.run 100 true [true] [hC (.int .i64 f)] rfl ⟨by simp [hf], hFault, trivial⟩ ?_
        refine At.keep [] [] rfl ?_
        refine At.nilRow 2 1 ?_
        refine At.ret [] rfl Tryz.func88 rfl trivial ⟨none, 0, ?_, rfl, ?_⟩
        · rw [hG]; rfl
        · rw [hG]; rfl
    · refine At.run 100 true [false, false] [hB 2] rfl (by (repeat' apply And.intro) <;> first | exact True.intro | omega | (simp only [inK]; omega) | (simp; done) | (simp; omega) | exact decide_eq_true (by omega) | exact decide_eq_false (by omega) | rfl | (simp [Value.oneCell']; done) | exact i64s_one _ | exact AggOk.mk (by kernel_rfl) (by kernel_rfl)) ?_
      by_cases hf : f = 0
      · subst hf
        have hl0 : lack = 0 := by omega
        subst hl0
        have hG : colG (bl s) most = (out, a, 0) := by rw [hc0 rfl, colLoop_zero]
        refine At.run 100 true [false] [hC (.int .i64 0)] rfl ⟨rfl, hFault, trivial⟩ ?_
        refine At.quiet true [] [hB 1, hC (.int .i64 ((bl s).length - a : Nat))] ⟨by kernel_rfl, by kernel_rfl, rfl, rfl, rfl⟩ rfl rfl rfl ⟨by simp only [inK]; omega, fun w' hw' => Tryz.Left_w s a 0 b w' ha hlen (hw'.bx (b, _, rdr s _ _) (by simp)), rfl, trivial⟩ ?_
        refine At.run 100 true [] [] rfl trivial ?_
        refine At.keep [] [true] rfl ?_
        refine At.ret [] rfl Tryz.func88 rfl trivial ⟨aa, cap, ?_, rfl, ?_⟩
        · rw [hG]; simp only [tupV]; rw [show (((bl s).length : Int) - (((bl s).length - a : Nat) : Int)) = (a : Int) by omega]
        · rw [hG]
      · have hG := hc1 hf
        refine At.run 100 true [true] [hC (.int .i64 f)] rfl ⟨by simp [hf], hFault, trivial⟩ ?_
        refine At.keep [] [] rfl ?_
        refine At.nilRow 2 1 ?_
        refine At.ret [] rfl Tryz.func88 rfl trivial ⟨none, 0, ?_, rfl, ?_⟩
        · rw [hG]; rfl
        · rw [hG]; rfl
end Go.Proofs

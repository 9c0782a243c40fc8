/-
  Walks of layer 14: numbers compared, one by one.
-/
import Derived.Test.YthmoeebmeifleaaGreatDoorM7
import Derived.Test.YthmoeebmeifleaaGreatDoorM20
import Derived.Test.YthmoeebmeifleaaGreatDoorM8
import Derived.Test.YthmoeebmeifleaaGreatDoorM37
import Derived.Test.YthmoeebmeifleaaGreatDoorM38
import Derived.Test.YthmoeebmeifleaaGreatDoorM19
import Derived.Test.YthmoeebmeifleaaGreatDoorM17
import Derived.Test.YthmoeebmeifleaaGreatDoorM36
import Derived.Test.YthmoeebmeifleaaGreatDoorM11
/-
  Walks of layer 14: numbers compared, one by one.
-/
namespace Go.Proofs
open Go Go.Eng
set_option maxRecDepth 100000
set_option maxHeartbeats 4000000
attribute [local irreducible] Tri

def cmpL : List Int → List Int → Int
  | [], [] => 0
  | [], _ :: _ => -1
  | _ :: _, [] => 1
  | x :: a, y :: b => if cmpI x y = 0 then cmpL a b else cmpI x y
theorem cmpL_drop {xs ys : List Int} : ∀ {i : Nat}, (∀ k x y, k < i → xs[k]? = some x → ys[k]? = some y → x = y) → i ≤ xs.length → i ≤ ys.length → cmpL xs ys = cmpL (xs.drop i) (ys.drop i)
  | 0, _, _, _ => by simp
  | i + 1, h, h1, h2 => by
    rw [cmpL_drop (i := i) (fun k x y hk => h k x y (by omega)) (by omega) (by omega), List.drop_eq_getElem_cons (by omega), List.drop_eq_getElem_cons (show i < ys.length by omega), cmpL, if_pos]
    rw [cmpI_eq]
    exact h i _ _ (by omega) (List.getElem?_eq_getElem (by omega)) (List.getElem?_eq_getElem (by omega))

theorem RdW.i64 {S : Base} {bx : Bx} {hp : List Seg} {g o off i : Nat} {xs : List Int} {x : Int} (hc : ∀ j u, (i64s xs)[j]? = some u → S.w0.cell? ⟨g, o + j, none⟩ = some u) (hm : g ∉ S.mods) (hx : xs[i]? = some x) (ho : off = o + i) : RdW S bx hp g off [.int .i64 x] :=
  RdW.sl hc hm i (by omega) (fun j u hu => by
    match j, hu with
    | 0, hu => simp only [List.getElem?_cons_zero, Option.some.injEq] at hu; subst hu; rw [Nat.add_zero]; exact i64s_get hx)
theorem i64s_ne {xs : List Int} {i : Nat} {x : Int} (h : xs[i]? = some x) : i64s xs ≠ [] := by
  intro e
  have := congrArg List.length e
  rw [i64s_len] at this
  have h2 := (List.getElem?_eq_some_iff.1 h).1
  simp at this
  rw [this] at h2; simp at h2

end Go.Proofs

/-
  Walk of layer 11's document: whether two columns are the same.
-/
namespace Go.Proofs
open Go Go.Eng
set_option maxRecDepth 100000
set_option maxHeartbeats 4000000
attribute [local irreducible] Tri

theorem take_succ_get {α : Type} {l : List α} {i : Nat} {x : α} (h : l[i]? = some x) : l.take (i + 1) = l.take i ++ [x] := by
  rw [List.take_add_one, h]; rfl

end Go.Proofs

/-
  Walks of layer 11: the reference's columns.
-/
namespace Go.Proofs
open Go Go.Eng
set_option maxRecDepth 100000
set_option maxHeartbeats 4000000
attribute [local irreducible] Tri

theorem lt_of_get {α : Type} {l : List α} {i : Nat} {x : α} (h : l[i]? = some x) : i < l.length := (List.getElem?_eq_some_iff.1 h).1
theorem diffs_snoc (x : Int) : ∀ (l : List Int) (a : Int), diffs a (l ++ [x]) = diffs a l ++ [IntKind.i64.wrap (x - l.getLast?.getD a)]
  | [], a => rfl
  | y :: l, a => by
    rw [List.cons_append, diffs, diffs_snoc x l y, diffs]
    cases l with
    | nil => rfl
    | cons z l =>
      obtain ⟨q, hq⟩ : ∃ q, (z :: l).getLast? = some q := ⟨_, List.getLast?_eq_some_getLast (by simp)⟩
      rw [List.getLast?_cons_cons, hq]; rfl
theorem setL_at (A : List Value) (x y z : Value) : putL (A ++ [x, y]) (A.length + 1) [z] = A ++ [x, z] := by
  simp only [putL]; rw [setL_eq, List.set_append_right _ _ (by omega)]; simp
theorem flat_len (l : List (Int × Nat)) : (l.flatMap encR).length = l.length * 2 := by
  induction l with
  | nil => rfl
  | cons x l ih => simp [List.flatMap_cons, ih, encR]; omega

theorem encR_cells {rs : List (Int × Nat)} {i off : Nat} {d : Int} {n : Nat} (hx : rs[i]? = some (d, n)) (ho : off = 2 * i) : ∀ (j : Nat) (u : Value), ([.int .i64 d, .int .i64 n] : List Value)[j]? = some u → (rs.flatMap encR)[off + j]? = some u := by
  intro k v hv
  subst ho
  have hlt := lt_of_get hx
  have e : rs = rs.take i ++ (d, n) :: rs.drop (i + 1) := by
    conv => lhs; rw [← List.take_append_drop i rs, List.drop_eq_getElem_cons hlt]
    congr 2; exact (List.getElem?_eq_some_iff.1 hx).2
  have hk : k < 2 := by have := lt_of_get hv; simpa using this
  have hl := flat_len (rs.take i)
  rw [List.length_take] at hl
  rw [e, List.flatMap_append, List.getElem?_append_right (by omega), List.flatMap_cons, List.getElem?_append_left (by show _ < 2; omega), ← hv]
  show ([.int .i64 d, .int .i64 n] : List Value)[_]? = _
  congr 1; omega


/-- The reference's column of bytes. -/
theorem Tryz.rGet_w (s : ByteArray) (most : Nat) (w : World) (hm : most ≤ 65536) (hlen : (bl s).length ≤ 9223372036854775807) :
    Tri Tryz.prog 97 [.string s, .int .i64 most] w [] (fun v bx hp => ∃ a cap, v = .tuple #[sv a (colG (bl s) most).1.length cap, .int .i64 (colG (bl s) most).2.1, .int .i64 (colG (bl s) most).2.2] ∧ bx = [] ∧
      hp = [Seg.row a 2 1 (colG (bl s) most).1.length cap (i64s (colG (bl s) most).1)]) := by
  refine Tri.enter (bx := []) (hp := []) Tryz.func97 rfl (by kernel_rfl) rfl (Own.nil w) ?_
  refine At.run 100 true [] [] rfl trivial ?_
  refine At.step [] rfl rfl rfl rfl rfl trivial (OpOk.call rfl (fun w' hw' => Tryz.rOf_w s w') ?_)
  rintro v bx' hp' ⟨b, rfl, rfl, rfl⟩
  have hN0 := rdN_lt (bl s) 0 0 most
  have hE0 := rdN_e (bl s) 0 0 most (by omega)
  have hA0 := rdN_a (l := bl s) (a := 0) (f := 0) (most := most) (by omega)
  have hk0 := @rdN_k0 (bl s) 0 0 most
  have hcg : colG (bl s) most = if (rdN (bl s) 0 0 most).2.2 ≠ 0 then ([], 0, (rdN (bl s) 0 0 most).2.2) else colLoop (bl s) (rdN (bl s) 0 0 most).1 (rdN (bl s) 0 0 most).2.1 (rdN (bl s) 0 0 most).1 none 0 [] := rfl
  have hc0 : CallU Tryz.prog ⟨w, kys [] []⟩ [(b, 176, rdr s 0 0)] [] 95 [.pointer (some ⟨b, 0, none⟩), .int .u64 most] (.int .u64 (rdN (bl s) 0 0 most).1) (b, 176, rdr s (rdN (bl s) 0 0 most).2.1 (rdN (bl s) 0 0 most).2.2) :=
    fun w' hw' => Tryz.rNum_w s 0 0 b most w' (by omega) hlen (Own.head hw'.toOwn)
  obtain ⟨n0, a0, f0, hR0⟩ : ∃ n a f, rdN (bl s) 0 0 most = (n, a, f) := ⟨_, _, _, rfl⟩
  simp only [hR0] at hN0 hE0 hA0 hcg hc0 hk0
  refine At.run 100 true [] [hU (.int .u64 n0) 0 (rdr s a0 f0)] rfl (by and_intros <;> first | exact hc0 | exact oK) ?_
  refine At.nilRow 2 1 ?_
  refine At.loop (n := n0) (env0 := [(0, .string s), (7, .pointer (some ⟨b, 0, none⟩)), (8, .int .i64 n0), (9, sv none 0 0), (10, .int .i64 0), (11, .int .i64 0)])
    (fun fuel env bx hp => ∃ (a lack : Nat) (f last was : Int) (out : List Int) (aa : Option Nat) (cap : Nat), lack ≤ fuel ∧ a ≤ (bl s).length ∧ out.length + lack = n0 ∧
      ((f = 0 ∧ (fuel ≠ n0 → out ≠ []) ∧ colG (bl s) most = colLoop (bl s) fuel a lack (if out = [] then none else some was) last out) ∨ (f ≠ 0 ∧ lack = 0 ∧ colG (bl s) most = ([], 0, f))) ∧
      env = [(0, .string s), (7, .pointer (some ⟨b, 0, none⟩)), (8, .int .i64 n0), (9, sv aa out.length cap), (10, .int .i64 last), (11, .int .i64 was)] ∧
      bx = [(b, 176, rdr s a f)] ∧ hp = [Seg.row aa 2 1 out.length cap (i64s out)]) rfl
    ⟨a0, n0, f0, 0, 0, [], none, 0, Nat.le_refl _, hA0.2, by simp, ?_, rfl, rfl, rfl⟩ ⟨rfl, rfl, rfl, rfl, rfl, rfl, trivial⟩ ?_
  · by_cases hf : f0 = 0
    · left; refine ⟨hf, fun h => (h rfl).elim, ?_⟩
      rw [hcg, if_neg (by simpa using hf)]; rfl
    · right; exact ⟨hf, hk0 hf, by rw [hcg, if_pos hf]⟩
  clear hcg hc0 hk0
  rintro fuel env bx hp ⟨a, lack, f, last, was, out, aa, cap, hfuel, ha, hsum, hst, rfl, rfl, rfl⟩ ih
  have hlen0 : ∀ {bx : Bx} {hp : List Seg}, ((out.length : Int) ≤ n0) := fun {_ _} => by omega
  by_cases hlk : 0 < lack
  · have hf : f = 0 := by rcases hst with h | h; exact h.1; omega
    subst hf
    have hst' : (fuel ≠ n0 → out ≠ []) ∧ colG (bl s) most = colLoop (bl s) fuel a lack (if out = [] then none else some was) last out := by rcases hst with h | h; exact h.2; exact (h.1 rfl).elim
    obtain ⟨hnee, hcl⟩ := hst'
    clear hst
    obtain ⟨fuel', rfl⟩ : ∃ g, fuel = g + 1 := ⟨fuel - 1, by omega⟩
    rw [colLoop, if_neg (by omega)] at hcl
    have hI := rdI_in (bl s) a 0
    have hIa := rdI_a (l := bl s) (a := a) (f := 0) ha
    obtain ⟨d, a1, f1, hR1⟩ : ∃ d a1 f1, rdI (bl s) a 0 = (d, a1, f1) := ⟨_, _, _, rfl⟩
    have hIe := rdI_e (bl s) a 0 (by omega)
    simp only [hR1] at hI hIa hcl hIe
    have hN2 := rdN_lt (bl s) a1 f1 lack
    have ha2 := rdN_a (l := bl s) (a := a1) (f := f1) (most := lack) hIa.2
    have hNe := rdN_e (bl s) a1 f1 lack hIe
    have hk0 := @rdN_k0 (bl s) a1 f1 lack
    obtain ⟨k, a2, f2, hR2⟩ : ∃ k a2 f2, rdN (bl s) a1 f1 lack = (k, a2, f2) := ⟨_, _, _, rfl⟩
    simp only [hR2] at hN2 ha2 hNe hcl hk0
    have hcI : ∀ {hp : List Seg}, CallU Tryz.prog ⟨w, kys [] []⟩ [(b, 176, rdr s a 0)] hp 191 [.pointer (some ⟨b, 0, none⟩)] (.int .i64 d) (b, 176, rdr s a1 f1) :=
      fun {_} w' hw' => by have := Tryz.rInt_w s a 0 b w' ha hlen (Own.head hw'.toOwn); rw [hR1] at this; exact this
    have hcN : ∀ {hp : List Seg}, CallU Tryz.prog ⟨w, kys [] []⟩ [(b, 176, rdr s a1 f1)] hp 95 [.pointer (some ⟨b, 0, none⟩), .int .u64 ((n0 : Int) - (out.length : Int))] (.int .u64 k) (b, 176, rdr s a2 f2) :=
      fun {_} w' hw' => by
        rw [show (n0 : Int) - (out.length : Int) = (lack : Int) by omega]
        have := Tryz.rNum_w s a1 f1 b lack w' hIa.2 hlen (Own.head hw'.toOwn); rw [hR2] at this; exact this
    refine At.run 100 true [true, true] [hB 0, hU (.int .i64 d) 0 (rdr s a1 f1), hU (.int .u64 k) 0 (rdr s a2 f2), hB 0] rfl (by and_intros <;> first | exact hcI | exact hcN | exact oK) ?_
    by_cases hf2 : f2 = 0
    · subst hf2
      rw [if_neg (by simp)] at hcl
      refine At.run 100 true [false] [] rfl oK ?_
      by_cases hkz : k = 0
      · have hu : colG (bl s) most = ([], 0, 3) := by rw [hcl]; simp [hkz]
        refine At.run 100 true [true, true] [] rfl oK ?_
        refine At.run 100 true [] [] rfl trivial ?_
        refine At.keep [] [] rfl ?_
        refine At.nilRow 2 1 ?_
        exact At.ret [] rfl Tryz.func97 rfl trivial ⟨none, 0, by rw [hu]; rfl, rfl, by rw [hu]; rfl⟩
      · have hnn : out ++ stepsL last d k ≠ [] := fun e => by
          have := congrArg List.length e
          rw [List.length_append, stepsL_len] at this; simp at this; omega
        by_cases ho : out = []
        · have hol : out.length = 0 := by rw [ho]; rfl
          have hu := hcl
          rw [if_neg (by simp [hkz, ho])] at hu
          refine At.run 100 true [false, false, false] [] rfl oK ?_
          refine At.loop (n := k) (env0 := [(0, .string s), (7, .pointer (some ⟨b, 0, none⟩)), (8, .int .i64 n0), (9, sv aa out.length cap), (10, .int .i64 last), (13, .int .i64 d), (14, .int .i64 k), (15, .int .i64 0)])
            (fun m env bx hp => ∃ (i : Nat) (a' : Option Nat) (cap' : Nat), m = k - i ∧ i ≤ k ∧ env = [(0, .string s), (7, .pointer (some ⟨b, 0, none⟩)), (8, .int .i64 n0), (9, sv a' (out ++ stepsL last d i).length cap'), (10, .int .i64 (stepsE last d i)), (13, .int .i64 d), (14, .int .i64 k), (15, .int .i64 i)] ∧
              bx = [(b, 176, rdr s a2 0)] ∧ hp = [Seg.row a' 2 1 (out ++ stepsL last d i).length cap' (i64s (out ++ stepsL last d i))]) rfl
            ⟨0, aa, cap, by simp, by omega, by simp [stepsE, stepsL], rfl, by simp [stepsL]⟩ ⟨rfl, rfl, rfl, rfl, rfl, rfl, rfl, rfl, trivial⟩ ?_
          rintro m env bx hp ⟨i, a', cap', rfl, hi, rfl, rfl, rfl⟩ ih2
          by_cases hlt : i < k
          · have hsl := stepsL_len last d i
            have hol : (out ++ stepsL last d i).length = out.length + i := by simp [hsl]
            refine At.run 100 false [true] [] rfl oK ?_
            refine At.append1 0 1 8 rfl rfl rfl rfl rfl rfl rfl rfl rfl trivial (fun _ => rfl) trivial rfl rfl rfl rfl rfl rfl rfl rfl (fun _ => rfl) (by simp [Value.oneCell']) (by omega) (by omega) (fun bb a2 cap2 => ?_)
            refine At.run 100 true [] [] rfl oK ?_
            refine At.weak (ih2 (k - (i + 1)) _ _ _ (by omega) ⟨i + 1, a2, cap2, rfl, by omega, rfl, rfl, ?_⟩) ⟨rfl, rfl, rfl, some_sv_eq (by rw [stepsL_snoc]; simp [Nat.add_assoc]), some_int_eq (stepsE_snoc ..).symm, rfl, rfl, some_int_eq (by omega), trivial⟩
            rw [stepsL_snoc]; simp [setL, i64s, Nat.add_assoc]
          · have : i = k := by omega
            subst this
            refine At.run 100 true [false] [] rfl oK ?_
            refine At.weak (ih fuel' _ _ _ (by omega) ⟨a2, lack - i, 0, stepsE last d i, d, out ++ stepsL last d i, a', cap', by omega, ha2.2, by rw [List.length_append, stepsL_len]; omega, .inl ⟨rfl, fun _ => hnn, by rw [if_neg hnn]; exact hu⟩, rfl, rfl, rfl⟩) ⟨rfl, rfl, rfl, rfl, rfl, rfl, trivial⟩
        · have hol : 0 < out.length := List.length_pos_iff.2 ho
          by_cases hdw : d = was
          · have hu : colG (bl s) most = ([], 0, 3) := by rw [hcl]; simp [ho, hdw]
            refine At.run 100 true [false, true, true] [] rfl oK ?_
            refine At.run 100 true [] [] rfl trivial ?_
            refine At.keep [] [] rfl ?_
            refine At.nilRow 2 1 ?_
            exact At.ret [] rfl Tryz.func97 rfl trivial ⟨none, 0, by rw [hu]; rfl, rfl, by rw [hu]; rfl⟩
          · have hu := hcl
            rw [if_neg (by simp [hkz, ho]; exact fun e => hdw e.symm)] at hu
            refine At.run 100 true [false, true, false] [] rfl oK ?_
            refine At.loop (n := k) (env0 := [(0, .string s), (7, .pointer (some ⟨b, 0, none⟩)), (8, .int .i64 n0), (9, sv aa out.length cap), (10, .int .i64 last), (13, .int .i64 d), (14, .int .i64 k), (15, .int .i64 0)])
              (fun m env bx hp => ∃ (i : Nat) (a' : Option Nat) (cap' : Nat), m = k - i ∧ i ≤ k ∧ env = [(0, .string s), (7, .pointer (some ⟨b, 0, none⟩)), (8, .int .i64 n0), (9, sv a' (out ++ stepsL last d i).length cap'), (10, .int .i64 (stepsE last d i)), (13, .int .i64 d), (14, .int .i64 k), (15, .int .i64 i)] ∧
                bx = [(b, 176, rdr s a2 0)] ∧ hp = [Seg.row a' 2 1 (out ++ stepsL last d i).length cap' (i64s (out ++ stepsL last d i))]) rfl
              ⟨0, aa, cap, by simp, by omega, by simp [stepsE, stepsL], rfl, by simp [stepsL]⟩ ⟨rfl, rfl, rfl, rfl, rfl, rfl, rfl, rfl, trivial⟩ ?_
            rintro m env bx hp ⟨i, a', cap', rfl, hi, rfl, rfl, rfl⟩ ih2
            by_cases hlt : i < k
            · have hsl := stepsL_len last d i
              have hol : (out ++ stepsL last d i).length = out.length + i := by simp [hsl]
              refine At.run 100 false [true] [] rfl oK ?_
              refine At.append1 0 1 8 rfl rfl rfl rfl rfl rfl rfl rfl rfl trivial (fun _ => rfl) trivial rfl rfl rfl rfl rfl rfl rfl rfl (fun _ => rfl) (by simp [Value.oneCell']) (by omega) (by omega) (fun bb a2 cap2 => ?_)
              refine At.run 100 true [] [] rfl oK ?_
              refine At.weak (ih2 (k - (i + 1)) _ _ _ (by omega) ⟨i + 1, a2, cap2, rfl, by omega, rfl, rfl, ?_⟩) ⟨rfl, rfl, rfl, some_sv_eq (by rw [stepsL_snoc]; simp [Nat.add_assoc]), some_int_eq (stepsE_snoc ..).symm, rfl, rfl, some_int_eq (by omega), trivial⟩
              rw [stepsL_snoc]; simp [setL, i64s, Nat.add_assoc]
            · have : i = k := by omega
              subst this
              refine At.run 100 true [false] [] rfl oK ?_
              refine At.weak (ih fuel' _ _ _ (by omega) ⟨a2, lack - i, 0, stepsE last d i, d, out ++ stepsL last d i, a', cap', by omega, ha2.2, by rw [List.length_append, stepsL_len]; omega, .inl ⟨rfl, fun _ => hnn, by rw [if_neg hnn]; exact hu⟩, rfl, rfl, rfl⟩) ⟨rfl, rfl, rfl, rfl, rfl, rfl, trivial⟩
    · have hu : colG (bl s) most = ([], 0, f2) := by rw [hcl, if_pos hf2]
      refine At.run 100 true [true] [] rfl (by and_intros <;> first | simp [hf2]; done | exact oK) ?_
      refine At.quiet true [] [hB 0] ⟨by kernel_rfl, by kernel_rfl, rfl, rfl, rfl⟩ rfl rfl rfl oK ?_
      refine At.run 100 true [] [] rfl trivial ?_
      refine At.keep [] [] rfl ?_
      refine At.nilRow 2 1 ?_
      exact At.ret [] rfl Tryz.func97 rfl trivial ⟨none, 0, by rw [hu]; rfl, rfl, by rw [hu]; rfl⟩
  · have hl0 : lack = 0 := by omega
    subst hl0
    refine At.run 100 true [false, false] [] rfl oK ?_
    rcases hst with ⟨rfl, _, hc⟩ | ⟨hf, _, hu⟩
    · have hG : colG (bl s) most = (out, a, 0) := by rw [hc, colLoop_zero]
      refine At.run 100 true [false] [hB 0] rfl oK ?_
      refine At.quiet true [] [hB 0] ⟨by kernel_rfl, by kernel_rfl, rfl, rfl, rfl⟩ rfl rfl rfl oK ?_
      refine At.run 100 true [] [] rfl trivial ?_
      refine At.keep [] [true] rfl ?_
      exact At.ret [] rfl Tryz.func97 rfl trivial ⟨aa, cap, by rw [hG]; rfl, rfl, by rw [hG]⟩
    · refine At.run 100 true [true] [hB 0] rfl (by and_intros <;> first | simp [hf]; done | exact oK) ?_
      refine At.quiet true [] [hB 0] ⟨by kernel_rfl, by kernel_rfl, rfl, rfl, rfl⟩ rfl rfl rfl oK ?_
      refine At.run 100 true [] [] rfl trivial ?_
      refine At.keep [] [] rfl ?_
      refine At.nilRow 2 1 ?_
      exact At.ret [] rfl Tryz.func97 rfl trivial ⟨none, 0, by rw [hu]; rfl, rfl, by rw [hu]; rfl⟩
end Go.Proofs

/-
  Walks of layer 13: the reference's columns of a book.
-/
namespace Go.Proofs
open Go Go.Eng
set_option maxRecDepth 100000
set_option maxHeartbeats 4000000
attribute [local irreducible] Tri

theorem i64s_snoc (l : List Int) (x : Int) : i64s (l ++ [x]) = i64s l ++ [.int .i64 x] := by simp [i64s]
theorem At.cutRowB {ι : Type} {C : Ctx} {x : Eng.Loc} {df : List Deferred} {env : Env} {bx : Bx} {hp : List Seg} {S : Base} (y : Eng.Loc) (j : Nat) (e : ι → Env) (b : ι → Bx) (h : ι → Seg)
    (hs : ∀ i, At C y df (e i) (b i) (setL hp j (h i)) S) (hk : (∀ i, At C y df (e i) (b i) (setL hp j (h i)) S) → At C x df env bx hp S) : At C x df env bx hp S := hk hs

end Go.Proofs

/-
  Walks of layer 13: books got.
-/
namespace Go.Proofs
open Go Go.Eng
set_option maxRecDepth 100000
set_option maxHeartbeats 4000000
attribute [local irreducible] Tri

theorem At.cutAll {ι : Type} {C : Ctx} {x : Eng.Loc} {df : List Deferred} {env : Env} {bx : Bx} {hp : List Seg} {S : Base} (y : Eng.Loc) (e : ι → Env) (b : ι → Bx) (h : ι → List Seg)
    (hs : ∀ i, At C y df (e i) (b i) (h i) S) (hk : (∀ i, At C y df (e i) (b i) (h i) S) → At C x df env bx hp S) : At C x df env bx hp S := hk hs

/-- A field's functions: it is set by the second one, as the i-th number. -/
def SetOk (P : Program) (T sz i G : Nat) : Prop := ∀ (g n cap off : Nat) (v : Int) (xs : List Value) (w : World), off + sz ≤ xs.length → Own [] [Seg.row (some g) T sz n cap xs] w →
    Tri P G [.pointer (some ⟨g, off, none⟩), .int .i64 v] w (kys [] [Seg.row (some g) T sz n cap xs]) (fun u bx hp => u = .tuple #[] ∧ bx = [] ∧ hp = [Seg.row (some g) T sz n cap (putL xs (off + i) [.int .i64 v])])

theorem Tryz.holders2_w : SetOk Tryz.prog 103 4 0 149 := by
  intro g n cap off v xs w hl hown
  refine Tri.enter Tryz.func149 rfl (by kernel_rfl) rfl hown ?_
  refine At.run 100 true [] [] rfl trivial ?_
  refine At.step0 [] rfl rfl rfl rfl trivial (OpOk.storeRow 0 rfl rfl rfl rfl (by simp [Value.oneCell']) (by simp [Value.oneCell']) rfl (by simp only [List.length_cons, List.length_nil]; omega) ?_)
  refine At.run 100 true [] [] rfl trivial ?_
  exact At.ret [] rfl Tryz.func149 rfl trivial ⟨rfl, rfl, rfl⟩

theorem Tryz.holders4_w : SetOk Tryz.prog 103 4 1 151 := by
  intro g n cap off v xs w hl hown
  refine Tri.enter Tryz.func151 rfl (by kernel_rfl) rfl hown ?_
  refine At.run 100 true [] [] rfl trivial ?_
  refine At.step0 [] rfl rfl rfl rfl trivial (OpOk.storeRow 0 rfl rfl rfl rfl (by simp [Value.oneCell']) (by simp [Value.oneCell']) rfl (by simp only [List.length_cons, List.length_nil]; omega) ?_)
  refine At.run 100 true [] [] rfl trivial ?_
  exact At.ret [] rfl Tryz.func151 rfl trivial ⟨rfl, rfl, rfl⟩

theorem Tryz.holders6_w : SetOk Tryz.prog 103 4 2 153 := by
  intro g n cap off v xs w hl hown
  refine Tri.enter Tryz.func153 rfl (by kernel_rfl) rfl hown ?_
  refine At.run 100 true [] [] rfl trivial ?_
  refine At.step0 [] rfl rfl rfl rfl trivial (OpOk.storeRow 0 rfl rfl rfl rfl (by simp [Value.oneCell']) (by simp [Value.oneCell']) rfl (by simp only [List.length_cons, List.length_nil]; omega) ?_)
  refine At.run 100 true [] [] rfl trivial ?_
  exact At.ret [] rfl Tryz.func153 rfl trivial ⟨rfl, rfl, rfl⟩

theorem Tryz.holders8_w : SetOk Tryz.prog 103 4 3 155 := by
  intro g n cap off v xs w hl hown
  refine Tri.enter Tryz.func155 rfl (by kernel_rfl) rfl hown ?_
  refine At.run 100 true [] [] rfl trivial ?_
  refine At.step0 [] rfl rfl rfl rfl trivial (OpOk.storeRow 0 rfl rfl rfl rfl (by simp [Value.oneCell']) (by simp [Value.oneCell']) rfl (by simp only [List.length_cons, List.length_nil]; omega) ?_)
  refine At.run 100 true [] [] rfl trivial ?_
  exact At.ret [] rfl Tryz.func155 rfl trivial ⟨rfl, rfl, rfl⟩

theorem Tryz.holdersL_set (i : Nat) (hi : i < 4) : ∃ F G, Tryz.holdersL[i * 2]? = some (.func (.func F) ⟨[]⟩ ⟨[]⟩) ∧ Tryz.holdersL[i * 2 + 1]? = some (.func (.func G) ⟨[]⟩ ⟨[]⟩) ∧ SetOk Tryz.prog 103 4 i G := by
  match i, hi with
  | 0, _ => exact ⟨_, _, rfl, rfl, Tryz.holders2_w⟩
  | 1, _ => exact ⟨_, _, rfl, rfl, Tryz.holders4_w⟩
  | 2, _ => exact ⟨_, _, rfl, rfl, Tryz.holders6_w⟩
  | 3, _ => exact ⟨_, _, rfl, rfl, Tryz.holders8_w⟩

theorem Tryz.snapGetHolder_w (s : List UInt8) (e : Int) (u : Bool) (most gr gf : Nat) (w : World) (hm : most ≤ 65536) (hs : s.length ≤ 9223372036854775807)
    (hf : w.heap[gf]? = some (.cells Tryz.holdersL.toArray 246 (0, 0))) (hown : Own [(gr, 159, [str s, .int .i64 e, .bool u])] [] w) (hne : gf ∉ kys [(gr, 159, [str s, .int .i64 e, .bool u])] []) :
    Tri Tryz.prog 84 [.pointer (some ⟨gr, 0, none⟩), .int .i64 most, sv (some gf) 4 4] w (kys [(gr, 159, [str s, .int .i64 e, .bool u])] [])
      (fun v bx hp => ∃ a m xs s' e' u', v = sv a m m ∧ bx = [(gr, 159, [str s', .int .i64 e', .bool u'])] ∧ hp = [Seg.row a 103 4 m m xs] ∧ GetR most 4 s e u m xs s' e' u') := by
  refine Tri.enter Tryz.func84 rfl (by kernel_rfl) rfl hown ?_
  refine At.run 100 true [] [] rfl trivial ?_
  refine At.nilRow 103 4 ?_
  refine At.loop (n := 4) (env0 := [(0, .pointer (some ⟨gr, 0, none⟩)), (1, .int .i64 most), (7, sv none 0 0), (14, .slice (some ⟨gf, 0, none⟩) 4 4), (15, .int .i64 4), (16, .int .i64 0)]) (fun mm env bx hp => ∃ (i m : Nat) (a : Option Nat) (xs : List Value) (s' : List UInt8) (e' : Int) (u' : Bool), mm = 4 - i ∧ i ≤ 4 ∧
    env = [(0, .pointer (some ⟨gr, 0, none⟩)), (1, .int .i64 most), (7, sv a m m), (14, .slice (some ⟨gf, 0, none⟩) 4 4), (15, .int .i64 4), (16, .int .i64 i)] ∧ bx = [(gr, 159, [str s', .int .i64 e', .bool u'])] ∧ hp = [Seg.row a 103 4 m m xs] ∧ GetI most 4 s e u i a m xs s' e' u') rfl
    ⟨0, 0, none, [], s, e, u, rfl, by omega, rfl, rfl, rfl, GetI.zero _ _ _ _ _⟩ ⟨rfl, rfl, rfl, rfl, rfl, rfl, trivial⟩ ?_
  rintro mm env bx hp ⟨i, m, a, xs, s', e', u', rfl, hi, rfl, rfl, rfl, hI⟩ ih
  by_cases hlt : i < 4
  · obtain ⟨F, G, hF, hG, hset⟩ := Tryz.holdersL_set i hlt
    have hld : ∀ {bx : Bx} {hp : List Seg}, RdW ⟨w, kys [(gr, 159, [str s, .int .i64 e, .bool u])] []⟩ bx hp gf (0 + (i : Int).toNat * 2) [.func (.func F) ⟨[]⟩ ⟨[]⟩, .func (.func G) ⟨[]⟩ ⟨[]⟩] := fun {_ _} => RdW.blkB hne hf (fun j u hu => by
      match j, hu with
      | 0, hu => simp at hu; subst hu; rw [show 0 + (i : Int).toNat * 2 + 0 = i * 2 by omega]; exact hF
      | 1, hu => simp at hu; subst hu; rw [show 0 + (i : Int).toNat * 2 + 1 = i * 2 + 1 by omega]; exact hG)
    refine At.run 100 true [true] [hR [.func (.func F) ⟨[]⟩ ⟨[]⟩, .func (.func G) ⟨[]⟩ ⟨[]⟩]] rfl (by and_intros <;> first | exact hld | exact oK) ?_
    refine At.step [] rfl rfl rfl rfl rfl trivial (OpOk.alloc (cs := [.nilFunc, .nilFunc]) rfl (by kernel_rfl) fun b9 hb9 => ?_)
    by_cases he : e' = 0
    · subst he
      obtain ⟨rfl, cs, hcs, hcl, -, hxs⟩ := hI.ok rfl
      refine At.run 100 true [false] [hB 0, hB 1, hB 1] rfl oK ?_
      have hcg := fun w' => Tryz.ColGet_w ⟨s'.toArray⟩ most w' hm (by rw [bl_str]; have := hI.slen; omega)
      simp only [bl_str] at hcg
      have hca := colG_a s' most
      have hcln := colG_len s' most
      obtain ⟨c, k, ee, hGc⟩ : ∃ c k ee, colG s' most = (c, k, ee) := ⟨_, _, _, rfl⟩
      rw [hGc] at hcg hca hcln
      simp only at hcg hca hcln
      refine At.step [] rfl rfl rfl rfl rfl trivial (OpOk.call rfl (fun w' _ => hcg w') ?_)
      rintro v bx' hp' ⟨cg, cc, rfl, rfl, rfl⟩
      have hsl := hI.slen
      have hk2 : (k : Int) ≤ ((bl ⟨s'.toArray⟩).length : Int) := by rw [bl_str]; omega
      refine At.cutAll (ι := {q : Nat × Nat × List Value // GetC most 4 i q.2.1 cs c q.2.2}) ⟨0, [1, 0, 1, 1, 1, 1, 1, 0, 0, 1, 1, 0, 0, 1, 0, 1, 1], []⟩ (fun q => [(0, .pointer (some ⟨gr, 0, none⟩)), (1, .int .i64 most), (7, sv (some q.1.1) q.1.2.1 q.1.2.1), (9, .pointer (some ⟨b9, 0, none⟩)), (10, sv cg c.length cc), (14, .slice (some ⟨gf, 0, none⟩) 4 4), (15, .int .i64 4), (16, .int .i64 i), (58, .bool (!decide ((c.length : Int) = q.1.2.1)))]) (fun _ => [(b9, 246, [.func (.func F) ⟨[]⟩ ⟨[]⟩, .func (.func G) ⟨[]⟩ ⟨[]⟩]), (gr, 159, [str (s'.drop k), .int .i64 ee, .bool u'])]) (fun q => [Seg.row (some q.1.1) 103 4 q.1.2.1 q.1.2.1 q.1.2.2, Seg.row cg 2 1 c.length cc (i64s c)]) ?_ (fun hz => ?_)
      · rintro ⟨⟨g, m', ys⟩, hC⟩
        replace hC : GetC most 4 i m' cs c ys := hC
        have hC1 : ys.length = m' * 4 := hC.1
        have hC2 : m' ≤ most := hC.2.1
        by_cases hlen : c.length = m'
        · refine At.run 100 true [false] [] rfl oK ?_
          refine At.loop (n := c.length) (env0 := [(0, .pointer (some ⟨gr, 0, none⟩)), (1, .int .i64 most), (7, sv (some g) m' m'), (9, .pointer (some ⟨b9, 0, none⟩)), (10, sv cg c.length cc), (14, .slice (some ⟨gf, 0, none⟩) 4 4), (15, .int .i64 4), (16, .int .i64 i), (63, .int .i64 c.length), (64, .int .i64 0)]) (fun mm env bx hp => ∃ (j : Nat) (zs : List Value), mm = c.length - j ∧ j ≤ c.length ∧
            env = [(0, .pointer (some ⟨gr, 0, none⟩)), (1, .int .i64 most), (7, sv (some g) m' m'), (9, .pointer (some ⟨b9, 0, none⟩)), (10, sv cg c.length cc), (14, .slice (some ⟨gf, 0, none⟩) 4 4), (15, .int .i64 4), (16, .int .i64 i), (63, .int .i64 c.length), (64, .int .i64 j)] ∧ bx = [(b9, 246, [.func (.func F) ⟨[]⟩ ⟨[]⟩, .func (.func G) ⟨[]⟩ ⟨[]⟩]), (gr, 159, [str (s'.drop k), .int .i64 ee, .bool u'])] ∧ hp = [Seg.row (some g) 103 4 m' m' zs, Seg.row cg 2 1 c.length cc (i64s c)] ∧ zs.length = m' * 4 ∧ (evenB cs = true → zs = (rowsT 4 m' (cs ++ [c.take j])).flatMap i64s)) rfl
            ⟨0, ys, rfl, by omega, rfl, rfl, rfl, hC1, fun h => by rw [List.take_zero, rowsT_nil_snoc]; exact (hC.2.2 h).2⟩ ⟨rfl, rfl, rfl, rfl, rfl, rfl, rfl, rfl, rfl, rfl, trivial⟩ ?_
          rintro mm env bx hp ⟨j, zs, rfl, hj, rfl, rfl, rfl, hzl, hzs⟩ ih2
          by_cases hjl : j < c.length
          · obtain ⟨x, hx⟩ : ∃ x, c[j]? = some x := ⟨_, List.getElem?_eq_getElem hjl⟩
            refine At.rowSome 1 rfl (by omega) (fun g2 hg2 => ?_)
            subst hg2
            have hst := rowsT_set (sz := 4) (n := m') (cs := cs) (c := c) (j := j) (x := x) (by omega) (by omega) hx
            refine At.run 100 true [true] [] rfl oK ?_
            have r1 : RdW ⟨w, kys [(gr, 159, [str s, .int .i64 0, .bool u])] []⟩ [(b9, 246, [.func (.func F) ⟨[]⟩ ⟨[]⟩, .func (.func G) ⟨[]⟩ ⟨[]⟩]), (gr, 159, [str (s'.drop k), .int .i64 ee, .bool u'])] [Seg.row (some g) 103 4 m' m' zs, Seg.row (some g2) 2 1 c.length cc (i64s c)] g2 (0 + (j : Int).toNat * 1) [.int .i64 x] := RdW.row (j := 1) rfl (fun i' u' hu => by
              match i', hu with
              | 0, hu => simp at hu; subst hu; rw [show 0 + (j : Int).toNat * 1 + 0 = j by omega]; exact i64s_get hx)
            refine At.quietT 9 1 true [] [hB 0, hR [.int .i64 x]] ⟨by kernel_rfl, by kernel_rfl, rfl, by kernel_rfl, by kernel_rfl, by kernel_rfl, rfl, rfl, rfl⟩ rfl rfl rfl (by and_intros <;> first | exact r1 | exact oK) rfl ?_
            refine AtD.fork1 9 (by kernel_rfl) (StepD.by [] rfl rfl rfl rfl trivial (OpOk.callO [] [true] rfl rfl (fun w' hw' hown => hset g m' m' (0 + (j : Int).toNat * 4) x zs w' (by rw [hzl]; omega) hown) ?_))
            rintro v bx' hp' ⟨rfl, rfl, rfl⟩
            refine AtD.done (by kernel_rfl) ?_
            refine At.run 100 true [] [] rfl oK ?_
            refine At.weak (ih2 (c.length - (j + 1)) _ _ _ (by omega) ⟨j + 1, _, rfl, by omega, rfl, rfl, rfl, by rw [putL_one_len]; exact hzl, fun h => ?_⟩) ⟨rfl, rfl, rfl, rfl, rfl, rfl, rfl, rfl, rfl, some_int_eq (by omega), trivial⟩
            rw [← hst, ← hzs h, hcl, show 0 + (j : Int).toNat * 4 + i = j * 4 + i by omega]
          · have : j = c.length := by omega
            subst this
            rw [List.take_length] at hzs
            refine At.run 100 true [false] [] rfl oK ?_
            refine At.keep [false, true] [true] rfl ?_
            exact At.weak (ih (4 - (i + 1)) _ _ _ (by omega) ⟨i + 1, m', some g, zs, s'.drop k, ee, u', rfl, by omega, rfl, rfl, rfl, hI.even hlt hcs hGc hC hlen hzl hzs g⟩) ⟨rfl, rfl, rfl, rfl, rfl, some_int_eq (by omega), trivial⟩
        · refine At.run 100 true [true] [hB 1] rfl oK ?_
          refine At.keep [false, true] [true] rfl ?_
          exact At.weak (ih (4 - (i + 1)) _ _ _ (by omega) ⟨i + 1, m', some g, ys, s'.drop k, ee, true, rfl, by omega, rfl, rfl, rfl, hI.odd hlt hcs hGc hC hlen g⟩) ⟨rfl, rfl, rfl, rfl, rfl, some_int_eq (by omega), trivial⟩
      · by_cases hi0 : i = 0
        · subst hi0
          have hcs0 : cs = [] := List.length_eq_zero_iff.1 hcl
          refine At.run 100 true [true] [hB 1, hB 1, hB 1] rfl (by and_intros <;> first | exact hk2 | exact oK) ?_
          refine At.step [] rfl rfl rfl rfl rfl trivial (OpOk.makeSlice (sz := 4) (by_ := 32) (xs := List.replicate (c.length * 4) (.int .i64 0)) c.length rfl rfl rfl rfl rfl rfl (by omega) (by omega) (by omega) (by simp) (fun j hj => rep_get (n := 4) (by omega) hj) (by decide) (fun g => ?_))
          refine At.run 100 true [] [] rfl oK ?_
          refine At.keep [true, true] [true, true] rfl ?_
          exact At.weak (hz ⟨(g, c.length, List.replicate (c.length * 4) (.int .i64 0)), by simp, hcln, fun _ => ⟨rfl, by rw [hcs0]; exact (rowsT_zero _ _).symm⟩⟩) ⟨rfl, rfl, rfl, rfl, rfl, rfl, rfl, rfl, rfl, trivial⟩
        · obtain ⟨g, rfl⟩ := hI.has (by omega)
          refine At.run 100 true [false] [hB 1, hB 1, hB 1] rfl (by and_intros <;> first | exact hk2 | exact oK) ?_
          refine At.perm (List.Perm.refl _) (List.Perm.swap _ _ _) ?_
          exact At.weak (hz ⟨(g, m, xs), hI.len, hI.le, fun h => ⟨by rw [if_neg hi0]; exact (hxs (by omega) h).1, (hxs (by omega) h).2⟩⟩) ⟨rfl, rfl, rfl, rfl, rfl, rfl, rfl, rfl, rfl, trivial⟩
    · refine At.run 100 true [true] [hB 0, hB 1] rfl oK ?_
      refine At.keep [false, true] [] rfl ?_
      refine At.nilRow 103 4 ?_
      exact At.ret [] rfl Tryz.func84 rfl trivial ⟨none, 0, [], s', e', u', rfl, rfl, rfl, hI.stop he⟩
  · have : i = 4 := by omega
    subst this
    refine At.run 100 true [false] [] rfl oK ?_
    exact At.ret [] rfl Tryz.func84 rfl trivial ⟨a, m, xs, s', e', u', rfl, rfl, rfl, hI.fin (by decide)⟩

end Go.Proofs

/-
  Walks of layer 13: books got.
-/
namespace Go.Proofs
open Go Go.Eng
set_option maxRecDepth 100000
set_option maxHeartbeats 4000000
attribute [local irreducible] Tri

theorem Tryz.stakes2_w : SetOk Tryz.prog 105 3 0 157 := by
  intro g n cap off v xs w hl hown
  refine Tri.enter Tryz.func157 rfl (by kernel_rfl) rfl hown ?_
  refine At.run 100 true [] [] rfl trivial ?_
  refine At.step0 [] rfl rfl rfl rfl trivial (OpOk.storeRow 0 rfl rfl rfl rfl (by simp [Value.oneCell']) (by simp [Value.oneCell']) rfl (by simp only [List.length_cons, List.length_nil]; omega) ?_)
  refine At.run 100 true [] [] rfl trivial ?_
  exact At.ret [] rfl Tryz.func157 rfl trivial ⟨rfl, rfl, rfl⟩

theorem Tryz.stakes4_w : SetOk Tryz.prog 105 3 1 159 := by
  intro g n cap off v xs w hl hown
  refine Tri.enter Tryz.func159 rfl (by kernel_rfl) rfl hown ?_
  refine At.run 100 true [] [] rfl trivial ?_
  refine At.step0 [] rfl rfl rfl rfl trivial (OpOk.storeRow 0 rfl rfl rfl rfl (by simp [Value.oneCell']) (by simp [Value.oneCell']) rfl (by simp only [List.length_cons, List.length_nil]; omega) ?_)
  refine At.run 100 true [] [] rfl trivial ?_
  exact At.ret [] rfl Tryz.func159 rfl trivial ⟨rfl, rfl, rfl⟩

theorem Tryz.stakes6_w : SetOk Tryz.prog 105 3 2 161 := by
  intro g n cap off v xs w hl hown
  refine Tri.enter Tryz.func161 rfl (by kernel_rfl) rfl hown ?_
  refine At.run 100 true [] [] rfl trivial ?_
  refine At.step0 [] rfl rfl rfl rfl trivial (OpOk.storeRow 0 rfl rfl rfl rfl (by simp [Value.oneCell']) (by simp [Value.oneCell']) rfl (by simp only [List.length_cons, List.length_nil]; omega) ?_)
  refine At.run 100 true [] [] rfl trivial ?_
  exact At.ret [] rfl Tryz.func161 rfl trivial ⟨rfl, rfl, rfl⟩

theorem Tryz.stakesL_set (i : Nat) (hi : i < 3) : ∃ F G, Tryz.stakesL[i * 2]? = some (.func (.func F) ⟨[]⟩ ⟨[]⟩) ∧ Tryz.stakesL[i * 2 + 1]? = some (.func (.func G) ⟨[]⟩ ⟨[]⟩) ∧ SetOk Tryz.prog 105 3 i G := by
  match i, hi with
  | 0, _ => exact ⟨_, _, rfl, rfl, Tryz.stakes2_w⟩
  | 1, _ => exact ⟨_, _, rfl, rfl, Tryz.stakes4_w⟩
  | 2, _ => exact ⟨_, _, rfl, rfl, Tryz.stakes6_w⟩

theorem Tryz.snapGetStake_w (s : List UInt8) (e : Int) (u : Bool) (most gr gf : Nat) (w : World) (hm : most ≤ 65536) (hs : s.length ≤ 9223372036854775807)
    (hf : w.heap[gf]? = some (.cells Tryz.stakesL.toArray 251 (0, 0))) (hown : Own [(gr, 159, [str s, .int .i64 e, .bool u])] [] w) (hne : gf ∉ kys [(gr, 159, [str s, .int .i64 e, .bool u])] []) :
    Tri Tryz.prog 86 [.pointer (some ⟨gr, 0, none⟩), .int .i64 most, sv (some gf) 3 3] w (kys [(gr, 159, [str s, .int .i64 e, .bool u])] [])
      (fun v bx hp => ∃ a m xs s' e' u', v = sv a m m ∧ bx = [(gr, 159, [str s', .int .i64 e', .bool u'])] ∧ hp = [Seg.row a 105 3 m m xs] ∧ GetR most 3 s e u m xs s' e' u') := by
  refine Tri.enter Tryz.func86 rfl (by kernel_rfl) rfl hown ?_
  refine At.run 100 true [] [] rfl trivial ?_
  refine At.nilRow 105 3 ?_
  refine At.loop (n := 3) (env0 := [(0, .pointer (some ⟨gr, 0, none⟩)), (1, .int .i64 most), (7, sv none 0 0), (14, .slice (some ⟨gf, 0, none⟩) 3 3), (15, .int .i64 3), (16, .int .i64 0)]) (fun mm env bx hp => ∃ (i m : Nat) (a : Option Nat) (xs : List Value) (s' : List UInt8) (e' : Int) (u' : Bool), mm = 3 - i ∧ i ≤ 3 ∧
    env = [(0, .pointer (some ⟨gr, 0, none⟩)), (1, .int .i64 most), (7, sv a m m), (14, .slice (some ⟨gf, 0, none⟩) 3 3), (15, .int .i64 3), (16, .int .i64 i)] ∧ bx = [(gr, 159, [str s', .int .i64 e', .bool u'])] ∧ hp = [Seg.row a 105 3 m m xs] ∧ GetI most 3 s e u i a m xs s' e' u') rfl
    ⟨0, 0, none, [], s, e, u, rfl, by omega, rfl, rfl, rfl, GetI.zero _ _ _ _ _⟩ ⟨rfl, rfl, rfl, rfl, rfl, rfl, trivial⟩ ?_
  rintro mm env bx hp ⟨i, m, a, xs, s', e', u', rfl, hi, rfl, rfl, rfl, hI⟩ ih
  by_cases hlt : i < 3
  · obtain ⟨F, G, hF, hG, hset⟩ := Tryz.stakesL_set i hlt
    have hld : ∀ {bx : Bx} {hp : List Seg}, RdW ⟨w, kys [(gr, 159, [str s, .int .i64 e, .bool u])] []⟩ bx hp gf (0 + (i : Int).toNat * 2) [.func (.func F) ⟨[]⟩ ⟨[]⟩, .func (.func G) ⟨[]⟩ ⟨[]⟩] := fun {_ _} => RdW.blkB hne hf (fun j u hu => by
      match j, hu with
      | 0, hu => simp at hu; subst hu; rw [show 0 + (i : Int).toNat * 2 + 0 = i * 2 by omega]; exact hF
      | 1, hu => simp at hu; subst hu; rw [show 0 + (i : Int).toNat * 2 + 1 = i * 2 + 1 by omega]; exact hG)
    refine At.run 100 true [true] [hR [.func (.func F) ⟨[]⟩ ⟨[]⟩, .func (.func G) ⟨[]⟩ ⟨[]⟩]] rfl (by and_intros <;> first | exact hld | exact oK) ?_
    refine At.step [] rfl rfl rfl rfl rfl trivial (OpOk.alloc (cs := [.nilFunc, .nilFunc]) rfl (by kernel_rfl) fun b9 hb9 => ?_)
    by_cases he : e' = 0
    · subst he
      obtain ⟨rfl, cs, hcs, hcl, -, hxs⟩ := hI.ok rfl
      refine At.run 100 true [false] [hB 0, hB 1, hB 1] rfl oK ?_
      have hcg := fun w' => Tryz.ColGet_w ⟨s'.toArray⟩ most w' hm (by rw [bl_str]; have := hI.slen; omega)
      simp only [bl_str] at hcg
      have hca := colG_a s' most
      have hcln := colG_len s' most
      obtain ⟨c, k, ee, hGc⟩ : ∃ c k ee, colG s' most = (c, k, ee) := ⟨_, _, _, rfl⟩
      rw [hGc] at hcg hca hcln
      simp only at hcg hca hcln
      refine At.step [] rfl rfl rfl rfl rfl trivial (OpOk.call rfl (fun w' _ => hcg w') ?_)
      rintro v bx' hp' ⟨cg, cc, rfl, rfl, rfl⟩
      have hsl := hI.slen
      have hk2 : (k : Int) ≤ ((bl ⟨s'.toArray⟩).length : Int) := by rw [bl_str]; omega
      refine At.cutAll (ι := {q : Nat × Nat × List Value // GetC most 3 i q.2.1 cs c q.2.2}) ⟨0, [1, 0, 1, 1, 1, 1, 1, 0, 0, 1, 1, 0, 0, 1, 0, 1, 1], []⟩ (fun q => [(0, .pointer (some ⟨gr, 0, none⟩)), (1, .int .i64 most), (7, sv (some q.1.1) q.1.2.1 q.1.2.1), (9, .pointer (some ⟨b9, 0, none⟩)), (10, sv cg c.length cc), (14, .slice (some ⟨gf, 0, none⟩) 3 3), (15, .int .i64 3), (16, .int .i64 i), (58, .bool (!decide ((c.length : Int) = q.1.2.1)))]) (fun _ => [(b9, 251, [.func (.func F) ⟨[]⟩ ⟨[]⟩, .func (.func G) ⟨[]⟩ ⟨[]⟩]), (gr, 159, [str (s'.drop k), .int .i64 ee, .bool u'])]) (fun q => [Seg.row (some q.1.1) 105 3 q.1.2.1 q.1.2.1 q.1.2.2, Seg.row cg 2 1 c.length cc (i64s c)]) ?_ (fun hz => ?_)
      · rintro ⟨⟨g, m', ys⟩, hC⟩
        replace hC : GetC most 3 i m' cs c ys := hC
        have hC1 : ys.length = m' * 3 := hC.1
        have hC2 : m' ≤ most := hC.2.1
        by_cases hlen : c.length = m'
        · refine At.run 100 true [false] [] rfl oK ?_
          refine At.loop (n := c.length) (env0 := [(0, .pointer (some ⟨gr, 0, none⟩)), (1, .int .i64 most), (7, sv (some g) m' m'), (9, .pointer (some ⟨b9, 0, none⟩)), (10, sv cg c.length cc), (14, .slice (some ⟨gf, 0, none⟩) 3 3), (15, .int .i64 3), (16, .int .i64 i), (63, .int .i64 c.length), (64, .int .i64 0)]) (fun mm env bx hp => ∃ (j : Nat) (zs : List Value), mm = c.length - j ∧ j ≤ c.length ∧
            env = [(0, .pointer (some ⟨gr, 0, none⟩)), (1, .int .i64 most), (7, sv (some g) m' m'), (9, .pointer (some ⟨b9, 0, none⟩)), (10, sv cg c.length cc), (14, .slice (some ⟨gf, 0, none⟩) 3 3), (15, .int .i64 3), (16, .int .i64 i), (63, .int .i64 c.length), (64, .int .i64 j)] ∧ bx = [(b9, 251, [.func (.func F) ⟨[]⟩ ⟨[]⟩, .func (.func G) ⟨[]⟩ ⟨[]⟩]), (gr, 159, [str (s'.drop k), .int .i64 ee, .bool u'])] ∧ hp = [Seg.row (some g) 105 3 m' m' zs, Seg.row cg 2 1 c.length cc (i64s c)] ∧ zs.length = m' * 3 ∧ (evenB cs = true → zs = (rowsT 3 m' (cs ++ [c.take j])).flatMap i64s)) rfl
            ⟨0, ys, rfl, by omega, rfl, rfl, rfl, hC1, fun h => by rw [List.take_zero, rowsT_nil_snoc]; exact (hC.2.2 h).2⟩ ⟨rfl, rfl, rfl, rfl, rfl, rfl, rfl, rfl, rfl, rfl, trivial⟩ ?_
          rintro mm env bx hp ⟨j, zs, rfl, hj, rfl, rfl, rfl, hzl, hzs⟩ ih2
          by_cases hjl : j < c.length
          · obtain ⟨x, hx⟩ : ∃ x, c[j]? = some x := ⟨_, List.getElem?_eq_getElem hjl⟩
            refine At.rowSome 1 rfl (by omega) (fun g2 hg2 => ?_)
            subst hg2
            have hst := rowsT_set (sz := 3) (n := m') (cs := cs) (c := c) (j := j) (x := x) (by omega) (by omega) hx
            refine At.run 100 true [true] [] rfl oK ?_
            have r1 : RdW ⟨w, kys [(gr, 159, [str s, .int .i64 0, .bool u])] []⟩ [(b9, 251, [.func (.func F) ⟨[]⟩ ⟨[]⟩, .func (.func G) ⟨[]⟩ ⟨[]⟩]), (gr, 159, [str (s'.drop k), .int .i64 ee, .bool u'])] [Seg.row (some g) 105 3 m' m' zs, Seg.row (some g2) 2 1 c.length cc (i64s c)] g2 (0 + (j : Int).toNat * 1) [.int .i64 x] := RdW.row (j := 1) rfl (fun i' u' hu => by
              match i', hu with
              | 0, hu => simp at hu; subst hu; rw [show 0 + (j : Int).toNat * 1 + 0 = j by omega]; exact i64s_get hx)
            refine At.quietT 9 1 true [] [hB 0, hR [.int .i64 x]] ⟨by kernel_rfl, by kernel_rfl, rfl, by kernel_rfl, by kernel_rfl, by kernel_rfl, rfl, rfl, rfl⟩ rfl rfl rfl (by and_intros <;> first | exact r1 | exact oK) rfl ?_
            refine AtD.fork1 9 (by kernel_rfl) (StepD.by [] rfl rfl rfl rfl trivial (OpOk.callO [] [true] rfl rfl (fun w' hw' hown => hset g m' m' (0 + (j : Int).toNat * 3) x zs w' (by rw [hzl]; omega) hown) ?_))
            rintro v bx' hp' ⟨rfl, rfl, rfl⟩
            refine AtD.done (by kernel_rfl) ?_
            refine At.run 100 true [] [] rfl oK ?_
            refine At.weak (ih2 (c.length - (j + 1)) _ _ _ (by omega) ⟨j + 1, _, rfl, by omega, rfl, rfl, rfl, by rw [putL_one_len]; exact hzl, fun h => ?_⟩) ⟨rfl, rfl, rfl, rfl, rfl, rfl, rfl, rfl, rfl, some_int_eq (by omega), trivial⟩
            rw [← hst, ← hzs h, hcl, show 0 + (j : Int).toNat * 3 + i = j * 3 + i by omega]
          · have : j = c.length := by omega
            subst this
            rw [List.take_length] at hzs
            refine At.run 100 true [false] [] rfl oK ?_
            refine At.keep [false, true] [true] rfl ?_
            exact At.weak (ih (3 - (i + 1)) _ _ _ (by omega) ⟨i + 1, m', some g, zs, s'.drop k, ee, u', rfl, by omega, rfl, rfl, rfl, hI.even hlt hcs hGc hC hlen hzl hzs g⟩) ⟨rfl, rfl, rfl, rfl, rfl, some_int_eq (by omega), trivial⟩
        · refine At.run 100 true [true] [hB 1] rfl oK ?_
          refine At.keep [false, true] [true] rfl ?_
          exact At.weak (ih (3 - (i + 1)) _ _ _ (by omega) ⟨i + 1, m', some g, ys, s'.drop k, ee, true, rfl, by omega, rfl, rfl, rfl, hI.odd hlt hcs hGc hC hlen g⟩) ⟨rfl, rfl, rfl, rfl, rfl, some_int_eq (by omega), trivial⟩
      · by_cases hi0 : i = 0
        · subst hi0
          have hcs0 : cs = [] := List.length_eq_zero_iff.1 hcl
          refine At.run 100 true [true] [hB 1, hB 1, hB 1] rfl (by and_intros <;> first | exact hk2 | exact oK) ?_
          refine At.step [] rfl rfl rfl rfl rfl trivial (OpOk.makeSlice (sz := 3) (by_ := 24) (xs := List.replicate (c.length * 3) (.int .i64 0)) c.length rfl rfl rfl rfl rfl rfl (by omega) (by omega) (by omega) (by simp) (fun j hj => rep_get (n := 3) (by omega) hj) (by decide) (fun g => ?_))
          refine At.run 100 true [] [] rfl oK ?_
          refine At.keep [true, true] [true, true] rfl ?_
          exact At.weak (hz ⟨(g, c.length, List.replicate (c.length * 3) (.int .i64 0)), by simp, hcln, fun _ => ⟨rfl, by rw [hcs0]; exact (rowsT_zero _ _).symm⟩⟩) ⟨rfl, rfl, rfl, rfl, rfl, rfl, rfl, rfl, rfl, trivial⟩
        · obtain ⟨g, rfl⟩ := hI.has (by omega)
          refine At.run 100 true [false] [hB 1, hB 1, hB 1] rfl (by and_intros <;> first | exact hk2 | exact oK) ?_
          refine At.perm (List.Perm.refl _) (List.Perm.swap _ _ _) ?_
          exact At.weak (hz ⟨(g, m, xs), hI.len, hI.le, fun h => ⟨by rw [if_neg hi0]; exact (hxs (by omega) h).1, (hxs (by omega) h).2⟩⟩) ⟨rfl, rfl, rfl, rfl, rfl, rfl, rfl, rfl, rfl, trivial⟩
    · refine At.run 100 true [true] [hB 0, hB 1] rfl oK ?_
      refine At.keep [false, true] [] rfl ?_
      refine At.nilRow 105 3 ?_
      exact At.ret [] rfl Tryz.func86 rfl trivial ⟨none, 0, [], s', e', u', rfl, rfl, rfl, hI.stop he⟩
  · have : i = 3 := by omega
    subst this
    refine At.run 100 true [false] [] rfl oK ?_
    exact At.ret [] rfl Tryz.func86 rfl trivial ⟨a, m, xs, s', e', u', rfl, rfl, rfl, hI.fin (by decide)⟩

end Go.Proofs

/-
  Walks of layer 13: books got.
-/
namespace Go.Proofs
open Go Go.Eng
set_option maxRecDepth 100000
set_option maxHeartbeats 4000000
attribute [local irreducible] Tri

theorem Tryz.opens2_w : SetOk Tryz.prog 107 6 0 163 := by
  intro g n cap off v xs w hl hown
  refine Tri.enter Tryz.func163 rfl (by kernel_rfl) rfl hown ?_
  refine At.run 100 true [] [] rfl trivial ?_
  refine At.step0 [] rfl rfl rfl rfl trivial (OpOk.storeRow 0 rfl rfl rfl rfl (by simp [Value.oneCell']) (by simp [Value.oneCell']) rfl (by simp only [List.length_cons, List.length_nil]; omega) ?_)
  refine At.run 100 true [] [] rfl trivial ?_
  exact At.ret [] rfl Tryz.func163 rfl trivial ⟨rfl, rfl, rfl⟩

theorem Tryz.opens4_w : SetOk Tryz.prog 107 6 1 165 := by
  intro g n cap off v xs w hl hown
  refine Tri.enter Tryz.func165 rfl (by kernel_rfl) rfl hown ?_
  refine At.run 100 true [] [] rfl trivial ?_
  refine At.step0 [] rfl rfl rfl rfl trivial (OpOk.storeRow 0 rfl rfl rfl rfl (by simp [Value.oneCell']) (by simp [Value.oneCell']) rfl (by simp only [List.length_cons, List.length_nil]; omega) ?_)
  refine At.run 100 true [] [] rfl trivial ?_
  exact At.ret [] rfl Tryz.func165 rfl trivial ⟨rfl, rfl, rfl⟩

theorem Tryz.opens6_w : SetOk Tryz.prog 107 6 2 167 := by
  intro g n cap off v xs w hl hown
  refine Tri.enter Tryz.func167 rfl (by kernel_rfl) rfl hown ?_
  refine At.run 100 true [] [] rfl trivial ?_
  refine At.step0 [] rfl rfl rfl rfl trivial (OpOk.storeRow 0 rfl rfl rfl rfl (by simp [Value.oneCell']) (by simp [Value.oneCell']) rfl (by simp only [List.length_cons, List.length_nil]; omega) ?_)
  refine At.run 100 true [] [] rfl trivial ?_
  exact At.ret [] rfl Tryz.func167 rfl trivial ⟨rfl, rfl, rfl⟩

theorem Tryz.opens8_w : SetOk Tryz.prog 107 6 3 169 := by
  intro g n cap off v xs w hl hown
  refine Tri.enter Tryz.func169 rfl (by kernel_rfl) rfl hown ?_
  refine At.run 100 true [] [] rfl trivial ?_
  refine At.step0 [] rfl rfl rfl rfl trivial (OpOk.storeRow 0 rfl rfl rfl rfl (by simp [Value.oneCell']) (by simp [Value.oneCell']) rfl (by simp only [List.length_cons, List.length_nil]; omega) ?_)
  refine At.run 100 true [] [] rfl trivial ?_
  exact At.ret [] rfl Tryz.func169 rfl trivial ⟨rfl, rfl, rfl⟩

theorem Tryz.opens10_w : SetOk Tryz.prog 107 6 4 171 := by
  intro g n cap off v xs w hl hown
  refine Tri.enter Tryz.func171 rfl (by kernel_rfl) rfl hown ?_
  refine At.run 100 true [] [] rfl trivial ?_
  refine At.step0 [] rfl rfl rfl rfl trivial (OpOk.storeRow 0 rfl rfl rfl rfl (by simp [Value.oneCell']) (by simp [Value.oneCell']) rfl (by simp only [List.length_cons, List.length_nil]; omega) ?_)
  refine At.run 100 true [] [] rfl trivial ?_
  exact At.ret [] rfl Tryz.func171 rfl trivial ⟨rfl, rfl, rfl⟩

theorem Tryz.opens12_w : SetOk Tryz.prog 107 6 5 173 := by
  intro g n cap off v xs w hl hown
  refine Tri.enter Tryz.func173 rfl (by kernel_rfl) rfl hown ?_
  refine At.run 100 true [] [] rfl trivial ?_
  refine At.step0 [] rfl rfl rfl rfl trivial (OpOk.storeRow 0 rfl rfl rfl rfl (by simp [Value.oneCell']) (by simp [Value.oneCell']) rfl (by simp only [List.length_cons, List.length_nil]; omega) ?_)
  refine At.run 100 true [] [] rfl trivial ?_
  exact At.ret [] rfl Tryz.func173 rfl trivial ⟨rfl, rfl, rfl⟩

theorem Tryz.opensL_set (i : Nat) (hi : i < 6) : ∃ F G, Tryz.opensL[i * 2]? = some (.func (.func F) ⟨[]⟩ ⟨[]⟩) ∧ Tryz.opensL[i * 2 + 1]? = some (.func (.func G) ⟨[]⟩ ⟨[]⟩) ∧ SetOk Tryz.prog 107 6 i G := by
  match i, hi with
  | 0, _ => exact ⟨_, _, rfl, rfl, Tryz.opens2_w⟩
  | 1, _ => exact ⟨_, _, rfl, rfl, Tryz.opens4_w⟩
  | 2, _ => exact ⟨_, _, rfl, rfl, Tryz.opens6_w⟩
  | 3, _ => exact ⟨_, _, rfl, rfl, Tryz.opens8_w⟩
  | 4, _ => exact ⟨_, _, rfl, rfl, Tryz.opens10_w⟩
  | 5, _ => exact ⟨_, _, rfl, rfl, Tryz.opens12_w⟩

theorem Tryz.snapGetOpen_w (s : List UInt8) (e : Int) (u : Bool) (most gr gf : Nat) (w : World) (hm : most ≤ 65536) (hs : s.length ≤ 9223372036854775807)
    (hf : w.heap[gf]? = some (.cells Tryz.opensL.toArray 256 (0, 0))) (hown : Own [(gr, 159, [str s, .int .i64 e, .bool u])] [] w) (hne : gf ∉ kys [(gr, 159, [str s, .int .i64 e, .bool u])] []) :
    Tri Tryz.prog 88 [.pointer (some ⟨gr, 0, none⟩), .int .i64 most, sv (some gf) 6 6] w (kys [(gr, 159, [str s, .int .i64 e, .bool u])] [])
      (fun v bx hp => ∃ a m xs s' e' u', v = sv a m m ∧ bx = [(gr, 159, [str s', .int .i64 e', .bool u'])] ∧ hp = [Seg.row a 107 6 m m xs] ∧ GetR most 6 s e u m xs s' e' u') := by
  refine Tri.enter Tryz.func88 rfl (by kernel_rfl) rfl hown ?_
  refine At.run 100 true [] [] rfl trivial ?_
  refine At.nilRow 107 6 ?_
  refine At.loop (n := 6) (env0 := [(0, .pointer (some ⟨gr, 0, none⟩)), (1, .int .i64 most), (7, sv none 0 0), (14, .slice (some ⟨gf, 0, none⟩) 6 6), (15, .int .i64 6), (16, .int .i64 0)]) (fun mm env bx hp => ∃ (i m : Nat) (a : Option Nat) (xs : List Value) (s' : List UInt8) (e' : Int) (u' : Bool), mm = 6 - i ∧ i ≤ 6 ∧
    env = [(0, .pointer (some ⟨gr, 0, none⟩)), (1, .int .i64 most), (7, sv a m m), (14, .slice (some ⟨gf, 0, none⟩) 6 6), (15, .int .i64 6), (16, .int .i64 i)] ∧ bx = [(gr, 159, [str s', .int .i64 e', .bool u'])] ∧ hp = [Seg.row a 107 6 m m xs] ∧ GetI most 6 s e u i a m xs s' e' u') rfl
    ⟨0, 0, none, [], s, e, u, rfl, by omega, rfl, rfl, rfl, GetI.zero _ _ _ _ _⟩ ⟨rfl, rfl, rfl, rfl, rfl, rfl, trivial⟩ ?_
  rintro mm env bx hp ⟨i, m, a, xs, s', e', u', rfl, hi, rfl, rfl, rfl, hI⟩ ih
  by_cases hlt : i < 6
  · obtain ⟨F, G, hF, hG, hset⟩ := Tryz.opensL_set i hlt
    have hld : ∀ {bx : Bx} {hp : List Seg}, RdW ⟨w, kys [(gr, 159, [str s, .int .i64 e, .bool u])] []⟩ bx hp gf (0 + (i : Int).toNat * 2) [.func (.func F) ⟨[]⟩ ⟨[]⟩, .func (.func G) ⟨[]⟩ ⟨[]⟩] := fun {_ _} => RdW.blkB hne hf (fun j u hu => by
      match j, hu with
      | 0, hu => simp at hu; subst hu; rw [show 0 + (i : Int).toNat * 2 + 0 = i * 2 by omega]; exact hF
      | 1, hu => simp at hu; subst hu; rw [show 0 + (i : Int).toNat * 2 + 1 = i * 2 + 1 by omega]; exact hG)
    refine At.run 100 true [true] [hR [.func (.func F) ⟨[]⟩ ⟨[]⟩, .func (.func G) ⟨[]⟩ ⟨[]⟩]] rfl (by and_intros <;> first | exact hld | exact oK) ?_
    refine At.step [] rfl rfl rfl rfl rfl trivial (OpOk.alloc (cs := [.nilFunc, .nilFunc]) rfl (by kernel_rfl) fun b9 hb9 => ?_)
    by_cases he : e' = 0
    · subst he
      obtain ⟨rfl, cs, hcs, hcl, -, hxs⟩ := hI.ok rfl
      refine At.run 100 true [false] [hB 0, hB 1, hB 1] rfl oK ?_
      have hcg := fun w' => Tryz.ColGet_w ⟨s'.toArray⟩ most w' hm (by rw [bl_str]; have := hI.slen; omega)
      simp only [bl_str] at hcg
      have hca := colG_a s' most
      have hcln := colG_len s' most
      obtain ⟨c, k, ee, hGc⟩ : ∃ c k ee, colG s' most = (c, k, ee) := ⟨_, _, _, rfl⟩
      rw [hGc] at hcg hca hcln
      simp only at hcg hca hcln
      refine At.step [] rfl rfl rfl rfl rfl trivial (OpOk.call rfl (fun w' _ => hcg w') ?_)
      rintro v bx' hp' ⟨cg, cc, rfl, rfl, rfl⟩
      have hsl := hI.slen
      have hk2 : (k : Int) ≤ ((bl ⟨s'.toArray⟩).length : Int) := by rw [bl_str]; omega
      refine At.cutAll (ι := {q : Nat × Nat × List Value // GetC most 6 i q.2.1 cs c q.2.2}) ⟨0, [1, 0, 1, 1, 1, 1, 1, 0, 0, 1, 1, 0, 0, 1, 0, 1, 1], []⟩ (fun q => [(0, .pointer (some ⟨gr, 0, none⟩)), (1, .int .i64 most), (7, sv (some q.1.1) q.1.2.1 q.1.2.1), (9, .pointer (some ⟨b9, 0, none⟩)), (10, sv cg c.length cc), (14, .slice (some ⟨gf, 0, none⟩) 6 6), (15, .int .i64 6), (16, .int .i64 i), (58, .bool (!decide ((c.length : Int) = q.1.2.1)))]) (fun _ => [(b9, 256, [.func (.func F) ⟨[]⟩ ⟨[]⟩, .func (.func G) ⟨[]⟩ ⟨[]⟩]), (gr, 159, [str (s'.drop k), .int .i64 ee, .bool u'])]) (fun q => [Seg.row (some q.1.1) 107 6 q.1.2.1 q.1.2.1 q.1.2.2, Seg.row cg 2 1 c.length cc (i64s c)]) ?_ (fun hz => ?_)
      · rintro ⟨⟨g, m', ys⟩, hC⟩
        replace hC : GetC most 6 i m' cs c ys := hC
        have hC1 : ys.length = m' * 6 := hC.1
        have hC2 : m' ≤ most := hC.2.1
        by_cases hlen : c.length = m'
        · refine At.run 100 true [false] [] rfl oK ?_
          refine At.loop (n := c.length) (env0 := [(0, .pointer (some ⟨gr, 0, none⟩)), (1, .int .i64 most), (7, sv (some g) m' m'), (9, .pointer (some ⟨b9, 0, none⟩)), (10, sv cg c.length cc), (14, .slice (some ⟨gf, 0, none⟩) 6 6), (15, .int .i64 6), (16, .int .i64 i), (63, .int .i64 c.length), (64, .int .i64 0)]) (fun mm env bx hp => ∃ (j : Nat) (zs : List Value), mm = c.length - j ∧ j ≤ c.length ∧
            env = [(0, .pointer (some ⟨gr, 0, none⟩)), (1, .int .i64 most), (7, sv (some g) m' m'), (9, .pointer (some ⟨b9, 0, none⟩)), (10, sv cg c.length cc), (14, .slice (some ⟨gf, 0, none⟩) 6 6), (15, .int .i64 6), (16, .int .i64 i), (63, .int .i64 c.length), (64, .int .i64 j)] ∧ bx = [(b9, 256, [.func (.func F) ⟨[]⟩ ⟨[]⟩, .func (.func G) ⟨[]⟩ ⟨[]⟩]), (gr, 159, [str (s'.drop k), .int .i64 ee, .bool u'])] ∧ hp = [Seg.row (some g) 107 6 m' m' zs, Seg.row cg 2 1 c.length cc (i64s c)] ∧ zs.length = m' * 6 ∧ (evenB cs = true → zs = (rowsT 6 m' (cs ++ [c.take j])).flatMap i64s)) rfl
            ⟨0, ys, rfl, by omega, rfl, rfl, rfl, hC1, fun h => by rw [List.take_zero, rowsT_nil_snoc]; exact (hC.2.2 h).2⟩ ⟨rfl, rfl, rfl, rfl, rfl, rfl, rfl, rfl, rfl, rfl, trivial⟩ ?_
          rintro mm env bx hp ⟨j, zs, rfl, hj, rfl, rfl, rfl, hzl, hzs⟩ ih2
          by_cases hjl : j < c.length
          · obtain ⟨x, hx⟩ : ∃ x, c[j]? = some x := ⟨_, List.getElem?_eq_getElem hjl⟩
            refine At.rowSome 1 rfl (by omega) (fun g2 hg2 => ?_)
            subst hg2
            have hst := rowsT_set (sz := 6) (n := m') (cs := cs) (c := c) (j := j) (x := x) (by omega) (by omega) hx
            refine At.run 100 true [true] [] rfl oK ?_
            have r1 : RdW ⟨w, kys [(gr, 159, [str s, .int .i64 0, .bool u])] []⟩ [(b9, 256, [.func (.func F) ⟨[]⟩ ⟨[]⟩, .func (.func G) ⟨[]⟩ ⟨[]⟩]), (gr, 159, [str (s'.drop k), .int .i64 ee, .bool u'])] [Seg.row (some g) 107 6 m' m' zs, Seg.row (some g2) 2 1 c.length cc (i64s c)] g2 (0 + (j : Int).toNat * 1) [.int .i64 x] := RdW.row (j := 1) rfl (fun i' u' hu => by
              match i', hu with
              | 0, hu => simp at hu; subst hu; rw [show 0 + (j : Int).toNat * 1 + 0 = j by omega]; exact i64s_get hx)
            refine At.quietT 9 1 true [] [hB 0, hR [.int .i64 x]] ⟨by kernel_rfl, by kernel_rfl, rfl, by kernel_rfl, by kernel_rfl, by kernel_rfl, rfl, rfl, rfl⟩ rfl rfl rfl (by and_intros <;> first | exact r1 | exact oK) rfl ?_
            refine AtD.fork1 9 (by kernel_rfl) (StepD.by [] rfl rfl rfl rfl trivial (OpOk.callO [] [true] rfl rfl (fun w' hw' hown => hset g m' m' (0 + (j : Int).toNat * 6) x zs w' (by rw [hzl]; omega) hown) ?_))
            rintro v bx' hp' ⟨rfl, rfl, rfl⟩
            refine AtD.done (by kernel_rfl) ?_
            refine At.run 100 true [] [] rfl oK ?_
            refine At.weak (ih2 (c.length - (j + 1)) _ _ _ (by omega) ⟨j + 1, _, rfl, by omega, rfl, rfl, rfl, by rw [putL_one_len]; exact hzl, fun h => ?_⟩) ⟨rfl, rfl, rfl, rfl, rfl, rfl, rfl, rfl, rfl, some_int_eq (by omega), trivial⟩
            rw [← hst, ← hzs h, hcl, show 0 + (j : Int).toNat * 6 + i = j * 6 + i by omega]
          · have : j = c.length := by omega
            subst this
            rw [List.take_length] at hzs
            refine At.run 100 true [false] [] rfl oK ?_
            refine At.keep [false, true] [true] rfl ?_
            exact At.weak (ih (6 - (i + 1)) _ _ _ (by omega) ⟨i + 1, m', some g, zs, s'.drop k, ee, u', rfl, by omega, rfl, rfl, rfl, hI.even hlt hcs hGc hC hlen hzl hzs g⟩) ⟨rfl, rfl, rfl, rfl, rfl, some_int_eq (by omega), trivial⟩
        · refine At.run 100 true [true] [hB 1] rfl oK ?_
          refine At.keep [false, true] [true] rfl ?_
          exact At.weak (ih (6 - (i + 1)) _ _ _ (by omega) ⟨i + 1, m', some g, ys, s'.drop k, ee, true, rfl, by omega, rfl, rfl, rfl, hI.odd hlt hcs hGc hC hlen g⟩) ⟨rfl, rfl, rfl, rfl, rfl, some_int_eq (by omega), trivial⟩
      · by_cases hi0 : i = 0
        · subst hi0
          have hcs0 : cs = [] := List.length_eq_zero_iff.1 hcl
          refine At.run 100 true [true] [hB 1, hB 1, hB 1] rfl (by and_intros <;> first | exact hk2 | exact oK) ?_
          refine At.step [] rfl rfl rfl rfl rfl trivial (OpOk.makeSlice (sz := 6) (by_ := 48) (xs := List.replicate (c.length * 6) (.int .i64 0)) c.length rfl rfl rfl rfl rfl rfl (by omega) (by omega) (by omega) (by simp) (fun j hj => rep_get (n := 6) (by omega) hj) (by decide) (fun g => ?_))
          refine At.run 100 true [] [] rfl oK ?_
          refine At.keep [true, true] [true, true] rfl ?_
          exact At.weak (hz ⟨(g, c.length, List.replicate (c.length * 6) (.int .i64 0)), by simp, hcln, fun _ => ⟨rfl, by rw [hcs0]; exact (rowsT_zero _ _).symm⟩⟩) ⟨rfl, rfl, rfl, rfl, rfl, rfl, rfl, rfl, rfl, trivial⟩
        · obtain ⟨g, rfl⟩ := hI.has (by omega)
          refine At.run 100 true [false] [hB 1, hB 1, hB 1] rfl (by and_intros <;> first | exact hk2 | exact oK) ?_
          refine At.perm (List.Perm.refl _) (List.Perm.swap _ _ _) ?_
          exact At.weak (hz ⟨(g, m, xs), hI.len, hI.le, fun h => ⟨by rw [if_neg hi0]; exact (hxs (by omega) h).1, (hxs (by omega) h).2⟩⟩) ⟨rfl, rfl, rfl, rfl, rfl, rfl, rfl, rfl, rfl, trivial⟩
    · refine At.run 100 true [true] [hB 0, hB 1] rfl oK ?_
      refine At.keep [false, true] [] rfl ?_
      refine At.nilRow 107 6 ?_
      exact At.ret [] rfl Tryz.func88 rfl trivial ⟨none, 0, [], s', e', u', rfl, rfl, rfl, hI.stop he⟩
  · have : i = 6 := by omega
    subst this
    refine At.run 100 true [false] [] rfl oK ?_
    exact At.ret [] rfl Tryz.func88 rfl trivial ⟨a, m, xs, s', e', u', rfl, rfl, rfl, hI.fin (by decide)⟩

end Go.Proofs

/-
  Walks of layer 13: books got.
-/
namespace Go.Proofs
open Go Go.Eng
set_option maxRecDepth 100000
set_option maxHeartbeats 4000000
attribute [local irreducible] Tri

theorem Tryz.rates2_w : SetOk Tryz.prog 109 2 0 175 := by
  intro g n cap off v xs w hl hown
  refine Tri.enter Tryz.func175 rfl (by kernel_rfl) rfl hown ?_
  refine At.run 100 true [] [] rfl trivial ?_
  refine At.step0 [] rfl rfl rfl rfl trivial (OpOk.storeRow 0 rfl rfl rfl rfl (by simp [Value.oneCell']) (by simp [Value.oneCell']) rfl (by simp only [List.length_cons, List.length_nil]; omega) ?_)
  refine At.run 100 true [] [] rfl trivial ?_
  exact At.ret [] rfl Tryz.func175 rfl trivial ⟨rfl, rfl, rfl⟩

theorem Tryz.rates4_w : SetOk Tryz.prog 109 2 1 177 := by
  intro g n cap off v xs w hl hown
  refine Tri.enter Tryz.func177 rfl (by kernel_rfl) rfl hown ?_
  refine At.run 100 true [] [] rfl trivial ?_
  refine At.step0 [] rfl rfl rfl rfl trivial (OpOk.storeRow 0 rfl rfl rfl rfl (by simp [Value.oneCell']) (by simp [Value.oneCell']) rfl (by simp only [List.length_cons, List.length_nil]; omega) ?_)
  refine At.run 100 true [] [] rfl trivial ?_
  exact At.ret [] rfl Tryz.func177 rfl trivial ⟨rfl, rfl, rfl⟩

theorem Tryz.ratesL_set (i : Nat) (hi : i < 2) : ∃ F G, Tryz.ratesL[i * 2]? = some (.func (.func F) ⟨[]⟩ ⟨[]⟩) ∧ Tryz.ratesL[i * 2 + 1]? = some (.func (.func G) ⟨[]⟩ ⟨[]⟩) ∧ SetOk Tryz.prog 109 2 i G := by
  match i, hi with
  | 0, _ => exact ⟨_, _, rfl, rfl, Tryz.rates2_w⟩
  | 1, _ => exact ⟨_, _, rfl, rfl, Tryz.rates4_w⟩

theorem Tryz.snapGetRate_w (s : List UInt8) (e : Int) (u : Bool) (most gr gf : Nat) (w : World) (hm : most ≤ 65536) (hs : s.length ≤ 9223372036854775807)
    (hf : w.heap[gf]? = some (.cells Tryz.ratesL.toArray 261 (0, 0))) (hown : Own [(gr, 159, [str s, .int .i64 e, .bool u])] [] w) (hne : gf ∉ kys [(gr, 159, [str s, .int .i64 e, .bool u])] []) :
    Tri Tryz.prog 90 [.pointer (some ⟨gr, 0, none⟩), .int .i64 most, sv (some gf) 2 2] w (kys [(gr, 159, [str s, .int .i64 e, .bool u])] [])
      (fun v bx hp => ∃ a m xs s' e' u', v = sv a m m ∧ bx = [(gr, 159, [str s', .int .i64 e', .bool u'])] ∧ hp = [Seg.row a 109 2 m m xs] ∧ GetR most 2 s e u m xs s' e' u') := by
  refine Tri.enter Tryz.func90 rfl (by kernel_rfl) rfl hown ?_
  refine At.run 100 true [] [] rfl trivial ?_
  refine At.nilRow 109 2 ?_
  refine At.loop (n := 2) (env0 := [(0, .pointer (some ⟨gr, 0, none⟩)), (1, .int .i64 most), (7, sv none 0 0), (14, .slice (some ⟨gf, 0, none⟩) 2 2), (15, .int .i64 2), (16, .int .i64 0)]) (fun mm env bx hp => ∃ (i m : Nat) (a : Option Nat) (xs : List Value) (s' : List UInt8) (e' : Int) (u' : Bool), mm = 2 - i ∧ i ≤ 2 ∧
    env = [(0, .pointer (some ⟨gr, 0, none⟩)), (1, .int .i64 most), (7, sv a m m), (14, .slice (some ⟨gf, 0, none⟩) 2 2), (15, .int .i64 2), (16, .int .i64 i)] ∧ bx = [(gr, 159, [str s', .int .i64 e', .bool u'])] ∧ hp = [Seg.row a 109 2 m m xs] ∧ GetI most 2 s e u i a m xs s' e' u') rfl
    ⟨0, 0, none, [], s, e, u, rfl, by omega, rfl, rfl, rfl, GetI.zero _ _ _ _ _⟩ ⟨rfl, rfl, rfl, rfl, rfl, rfl, trivial⟩ ?_
  rintro mm env bx hp ⟨i, m, a, xs, s', e', u', rfl, hi, rfl, rfl, rfl, hI⟩ ih
  by_cases hlt : i < 2
  · obtain ⟨F, G, hF, hG, hset⟩ := Tryz.ratesL_set i hlt
    have hld : ∀ {bx : Bx} {hp : List Seg}, RdW ⟨w, kys [(gr, 159, [str s, .int .i64 e, .bool u])] []⟩ bx hp gf (0 + (i : Int).toNat * 2) [.func (.func F) ⟨[]⟩ ⟨[]⟩, .func (.func G) ⟨[]⟩ ⟨[]⟩] := fun {_ _} => RdW.blkB hne hf (fun j u hu => by
      match j, hu with
      | 0, hu => simp at hu; subst hu; rw [show 0 + (i : Int).toNat * 2 + 0 = i * 2 by omega]; exact hF
      | 1, hu => simp at hu; subst hu; rw [show 0 + (i : Int).toNat * 2 + 1 = i * 2 + 1 by omega]; exact hG)
    refine At.run 100 true [true] [hR [.func (.func F) ⟨[]⟩ ⟨[]⟩, .func (.func G) ⟨[]⟩ ⟨[]⟩]] rfl (by and_intros <;> first | exact hld | exact oK) ?_
    refine At.step [] rfl rfl rfl rfl rfl trivial (OpOk.alloc (cs := [.nilFunc, .nilFunc]) rfl (by kernel_rfl) fun b9 hb9 => ?_)
    by_cases he : e' = 0
    · subst he
      obtain ⟨rfl, cs, hcs, hcl, -, hxs⟩ := hI.ok rfl
      refine At.run 100 true [false] [hB 0, hB 1, hB 1] rfl oK ?_
      have hcg := fun w' => Tryz.ColGet_w ⟨s'.toArray⟩ most w' hm (by rw [bl_str]; have := hI.slen; omega)
      simp only [bl_str] at hcg
      have hca := colG_a s' most
      have hcln := colG_len s' most
      obtain ⟨c, k, ee, hGc⟩ : ∃ c k ee, colG s' most = (c, k, ee) := ⟨_, _, _, rfl⟩
      rw [hGc] at hcg hca hcln
      simp only at hcg hca hcln
      refine At.step [] rfl rfl rfl rfl rfl trivial (OpOk.call rfl (fun w' _ => hcg w') ?_)
      rintro v bx' hp' ⟨cg, cc, rfl, rfl, rfl⟩
      have hsl := hI.slen
      have hk2 : (k : Int) ≤ ((bl ⟨s'.toArray⟩).length : Int) := by rw [bl_str]; omega
      refine At.cutAll (ι := {q : Nat × Nat × List Value // GetC most 2 i q.2.1 cs c q.2.2}) ⟨0, [1, 0, 1, 1, 1, 1, 1, 0, 0, 1, 1, 0, 0, 1, 0, 1, 1], []⟩ (fun q => [(0, .pointer (some ⟨gr, 0, none⟩)), (1, .int .i64 most), (7, sv (some q.1.1) q.1.2.1 q.1.2.1), (9, .pointer (some ⟨b9, 0, none⟩)), (10, sv cg c.length cc), (14, .slice (some ⟨gf, 0, none⟩) 2 2), (15, .int .i64 2), (16, .int .i64 i), (58, .bool (!decide ((c.length : Int) = q.1.2.1)))]) (fun _ => [(b9, 261, [.func (.func F) ⟨[]⟩ ⟨[]⟩, .func (.func G) ⟨[]⟩ ⟨[]⟩]), (gr, 159, [str (s'.drop k), .int .i64 ee, .bool u'])]) (fun q => [Seg.row (some q.1.1) 109 2 q.1.2.1 q.1.2.1 q.1.2.2, Seg.row cg 2 1 c.length cc (i64s c)]) ?_ (fun hz => ?_)
      · rintro ⟨⟨g, m', ys⟩, hC⟩
        replace hC : GetC most 2 i m' cs c ys := hC
        have hC1 : ys.length = m' * 2 := hC.1
        have hC2 : m' ≤ most := hC.2.1
        by_cases hlen : c.length = m'
        · refine At.run 100 true [false] [] rfl oK ?_
          refine At.loop (n := c.length) (env0 := [(0, .pointer (some ⟨gr, 0, none⟩)), (1, .int .i64 most), (7, sv (some g) m' m'), (9, .pointer (some ⟨b9, 0, none⟩)), (10, sv cg c.length cc), (14, .slice (some ⟨gf, 0, none⟩) 2 2), (15, .int .i64 2), (16, .int .i64 i), (63, .int .i64 c.length), (64, .int .i64 0)]) (fun mm env bx hp => ∃ (j : Nat) (zs : List Value), mm = c.length - j ∧ j ≤ c.length ∧
            env = [(0, .pointer (some ⟨gr, 0, none⟩)), (1, .int .i64 most), (7, sv (some g) m' m'), (9, .pointer (some ⟨b9, 0, none⟩)), (10, sv cg c.length cc), (14, .slice (some ⟨gf, 0, none⟩) 2 2), (15, .int .i64 2), (16, .int .i64 i), (63, .int .i64 c.length), (64, .int .i64 j)] ∧ bx = [(b9, 261, [.func (.func F) ⟨[]⟩ ⟨[]⟩, .func (.func G) ⟨[]⟩ ⟨[]⟩]), (gr, 159, [str (s'.drop k), .int .i64 ee, .bool u'])] ∧ hp = [Seg.row (some g) 109 2 m' m' zs, Seg.row cg 2 1 c.length cc (i64s c)] ∧ zs.length = m' * 2 ∧ (evenB cs = true → zs = (rowsT 2 m' (cs ++ [c.take j])).flatMap i64s)) rfl
            ⟨0, ys, rfl, by omega, rfl, rfl, rfl, hC1, fun h => by rw [List.take_zero, rowsT_nil_snoc]; exact (hC.2.2 h).2⟩ ⟨rfl, rfl, rfl, rfl, rfl, rfl, rfl, rfl, rfl, rfl, trivial⟩ ?_
          rintro mm env bx hp ⟨j, zs, rfl, hj, rfl, rfl, rfl, hzl, hzs⟩ ih2
          by_cases hjl : j < c.length
          · obtain ⟨x, hx⟩ : ∃ x, c[j]? = some x := ⟨_, List.getElem?_eq_getElem hjl⟩
            refine At.rowSome 1 rfl (by omega) (fun g2 hg2 => ?_)
            subst hg2
            have hst := rowsT_set (sz := 2) (n := m') (cs := cs) (c := c) (j := j) (x := x) (by omega) (by omega) hx
            refine At.run 100 true [true] [] rfl oK ?_
            have r1 : RdW ⟨w, kys [(gr, 159, [str s, .int .i64 0, .bool u])] []⟩ [(b9, 261, [.func (.func F) ⟨[]⟩ ⟨[]⟩, .func (.func G) ⟨[]⟩ ⟨[]⟩]), (gr, 159, [str (s'.drop k), .int .i64 ee, .bool u'])] [Seg.row (some g) 109 2 m' m' zs, Seg.row (some g2) 2 1 c.length cc (i64s c)] g2 (0 + (j : Int).toNat * 1) [.int .i64 x] := RdW.row (j := 1) rfl (fun i' u' hu => by
              match i', hu with
              | 0, hu => simp at hu; subst hu; rw [show 0 + (j : Int).toNat * 1 + 0 = j by omega]; exact i64s_get hx)
            refine At.quietT 9 1 true [] [hB 0, hR [.int .i64 x]] ⟨by kernel_rfl, by kernel_rfl, rfl, by kernel_rfl, by kernel_rfl, by kernel_rfl, rfl, rfl, rfl⟩ rfl rfl rfl (by and_intros <;> first | exact r1 | exact oK) rfl ?_
            refine AtD.fork1 9 (by kernel_rfl) (StepD.by [] rfl rfl rfl rfl trivial (OpOk.callO [] [true] rfl rfl (fun w' hw' hown => hset g m' m' (0 + (j : Int).toNat * 2) x zs w' (by rw [hzl]; omega) hown) ?_))
            rintro v bx' hp' ⟨rfl, rfl, rfl⟩
            refine AtD.done (by kernel_rfl) ?_
            refine At.run 100 true [] [] rfl oK ?_
            refine At.weak (ih2 (c.length - (j + 1)) _ _ _ (by omega) ⟨j + 1, _, rfl, by omega, rfl, rfl, rfl, by rw [putL_one_len]; exact hzl, fun h => ?_⟩) ⟨rfl, rfl, rfl, rfl, rfl, rfl, rfl, rfl, rfl, some_int_eq (by omega), trivial⟩
            rw [← hst, ← hzs h, hcl, show 0 + (j : Int).toNat * 2 + i = j * 2 + i by omega]
          · have : j = c.length := by omega
            subst this
            rw [List.take_length] at hzs
            refine At.run 100 true [false] [] rfl oK ?_
            refine At.keep [false, true] [true] rfl ?_
            exact At.weak (ih (2 - (i + 1)) _ _ _ (by omega) ⟨i + 1, m', some g, zs, s'.drop k, ee, u', rfl, by omega, rfl, rfl, rfl, hI.even hlt hcs hGc hC hlen hzl hzs g⟩) ⟨rfl, rfl, rfl, rfl, rfl, some_int_eq (by omega), trivial⟩
        · refine At.run 100 true [true] [hB 1] rfl oK ?_
          refine At.keep [false, true] [true] rfl ?_
          exact At.weak (ih (2 - (i + 1)) _ _ _ (by omega) ⟨i + 1, m', some g, ys, s'.drop k, ee, true, rfl, by omega, rfl, rfl, rfl, hI.odd hlt hcs hGc hC hlen g⟩) ⟨rfl, rfl, rfl, rfl, rfl, some_int_eq (by omega), trivial⟩
      · by_cases hi0 : i = 0
        · subst hi0
          have hcs0 : cs = [] := List.length_eq_zero_iff.1 hcl
          refine At.run 100 true [true] [hB 1, hB 1, hB 1] rfl (by and_intros <;> first | exact hk2 | exact oK) ?_
          refine At.step [] rfl rfl rfl rfl rfl trivial (OpOk.makeSlice (sz := 2) (by_ := 16) (xs := List.replicate (c.length * 2) (.int .i64 0)) c.length rfl rfl rfl rfl rfl rfl (by omega) (by omega) (by omega) (by simp) (fun j hj => rep_get (n := 2) (by omega) hj) (by decide) (fun g => ?_))
          refine At.run 100 true [] [] rfl oK ?_
          refine At.keep [true, true] [true, true] rfl ?_
          exact At.weak (hz ⟨(g, c.length, List.replicate (c.length * 2) (.int .i64 0)), by simp, hcln, fun _ => ⟨rfl, by rw [hcs0]; exact (rowsT_zero _ _).symm⟩⟩) ⟨rfl, rfl, rfl, rfl, rfl, rfl, rfl, rfl, rfl, trivial⟩
        · obtain ⟨g, rfl⟩ := hI.has (by omega)
          refine At.run 100 true [false] [hB 1, hB 1, hB 1] rfl (by and_intros <;> first | exact hk2 | exact oK) ?_
          refine At.perm (List.Perm.refl _) (List.Perm.swap _ _ _) ?_
          exact At.weak (hz ⟨(g, m, xs), hI.len, hI.le, fun h => ⟨by rw [if_neg hi0]; exact (hxs (by omega) h).1, (hxs (by omega) h).2⟩⟩) ⟨rfl, rfl, rfl, rfl, rfl, rfl, rfl, rfl, rfl, trivial⟩
    · refine At.run 100 true [true] [hB 0, hB 1] rfl oK ?_
      refine At.keep [false, true] [] rfl ?_
      refine At.nilRow 109 2 ?_
      exact At.ret [] rfl Tryz.func90 rfl trivial ⟨none, 0, [], s', e', u', rfl, rfl, rfl, hI.stop he⟩
  · have : i = 2 := by omega
    subst this
    refine At.run 100 true [false] [] rfl oK ?_
    exact At.ret [] rfl Tryz.func90 rfl trivial ⟨a, m, xs, s', e', u', rfl, rfl, rfl, hI.fin (by decide)⟩

end Go.Proofs

/-
  Walks of layer 13: books got.
-/
namespace Go.Proofs
open Go Go.Eng
set_option maxRecDepth 100000
set_option maxHeartbeats 4000000
attribute [local irreducible] Tri

theorem notKeyB {S : Base} {g t : Nat} {cs : List Value} {bx : Bx} {e : Nat × TypeId × List Value} {hp : List Seg} {w : World} (h : WOk S ((g, t, cs) :: e :: bx) hp w) : g ∉ kys [e] [] := by
  intro hk
  have hnd := h.nd
  simp only [kys, List.map_cons, List.cons_append, List.nodup_cons] at hnd
  apply hnd.1
  simp only [kys, List.map_cons, List.map_nil, List.flatMap_nil, List.append_nil, List.mem_singleton] at hk
  simp [hk]

/-- Where a new book's lists lie. -/
structure BkG where
  g1 : Option Nat
  g2 : Option Nat
  g3 : Option Nat
  g4 : Option Nat
  c1 : Nat
  c2 : Nat
  c3 : Nat
  c4 : Nat
def BkG.A (G : BkG) : BkA := ⟨svA G.g1, svA G.g2, svA G.g3, svA G.g4, G.c1, G.c2, G.c3, G.c4⟩
def Tryz.bkRows (b : Bk) (G : BkG) : List Seg := [Seg.row G.g4 109 2 b.R.length G.c4 (b.R.flatMap i64s), Seg.row G.g3 107 6 b.O.length G.c3 (b.O.flatMap i64s), Seg.row G.g2 105 3 b.S.length G.c2 (b.S.flatMap i64s), Seg.row G.g1 103 4 b.H.length G.c1 (b.H.flatMap i64s)]
theorem Tryz.bkRows_ok {S : Base} {bx : Bx} {hp : List Seg} {w : World} {b : Bk} {G : BkG} (hw : WOk S bx hp w) (h : ∀ s, s ∈ Tryz.bkRows b G → s ∈ hp) : BkOk w b G.A :=
  have m (i : Nat) {s : Seg} (hs : (Tryz.bkRows b G)[i]? = some s) : s ∈ hp := h s (List.mem_of_getElem? hs)
  ⟨SlOk.row (hw.hp _ (m 3 rfl)), SlOk.row (hw.hp _ (m 2 rfl)), SlOk.row (hw.hp _ (m 1 rfl)), SlOk.row (hw.hp _ (m 0 rfl))⟩

theorem Tryz.snapGet_w (s : List UInt8) (w : World) (hs : s.length ≤ 9223372036854775807) :
    Tri Tryz.prog 44 [str s] w [] (fun v bx hp => ∃ G : BkG, v = .tuple #[.agg ⟨bkV (getBk s).1 G.A⟩, .int .i64 (getBk s).2] ∧ bx = [] ∧ hp = Tryz.bkRows (getBk s).1 G) := by
  refine Tri.enter (bx := []) (hp := []) Tryz.func44 rfl (by kernel_rfl) rfl (Own.nil w) ?_
  refine At.run 100 true [] [] rfl trivial ?_
  refine At.step [] rfl rfl rfl rfl rfl trivial (OpOk.alloc (cs := [sv none 0 0, sv none 0 0, sv none 0 0, sv none 0 0, .int .i64 0]) rfl (by kernel_rfl) fun b2 hb2 => ?_)
  refine At.run 100 true [] [] rfl trivial ?_
  refine At.step [] rfl rfl rfl rfl rfl trivial (OpOk.call rfl (fun w' hw' => Tryz.Read_w ⟨s.toArray⟩ w') ?_)
  rintro v bx' hp' ⟨b, rfl, rfl, rfl⟩
  have hN0 := rdN_lt s 0 0 1099511627776
  have hA0 := rdN_a (l := s) (a := 0) (f := 0) (most := 1099511627776) (by omega)
  have hNum : ∀ {w' : World} {bx : Bx}, WOk ⟨w, kys [] []⟩ ((b, 234, rdr ⟨s.toArray⟩ 0 0) :: bx) [] w' → _ := fun {w'} {bx} hw' => Tryz.Num_w ⟨s.toArray⟩ 0 0 b 1099511627776 w' (by omega) (by rw [bl_str]; exact hs) (Own.head hw'.toOwn)
  simp only [bl_str] at hNum
  obtain ⟨n, a, e0, hN⟩ : ∃ n a f, rdN s 0 0 1099511627776 = (n, a, f) := ⟨_, _, _, rfl⟩
  rw [hN] at hN0 hA0 hNum
  simp only at hN0 hA0 hNum
  refine At.run 100 true [] [hU (.int .u64 n) 0 (rdr ⟨s.toArray⟩ a e0)] rfl (by and_intros <;> first | exact fun w' hw' => hNum hw' | exact oK) ?_
  refine At.step [] rfl rfl rfl rfl rfl trivial (OpOk.alloc (cs := [sv none 0 0, sv none 0 0, sv none 0 0, sv none 0 0, .int .i64 0]) rfl (by kernel_rfl) fun b5 hb5 => ?_)
  refine At.run 100 true [] [hB 0] rfl (by and_intros <;> first | simp [Value.oneCell']; done | exact oK) ?_
  have hLeft : ∀ {w' : World} {bx : Bx} {hp : List Seg} {x : Nat × TypeId × List Value}, WOk ⟨w, kys [] []⟩ (x :: (b, 234, rdr ⟨s.toArray⟩ a e0) :: bx) hp w' → _ := fun {w' bx hp x} hw' => Tryz.Left_w ⟨s.toArray⟩ a e0 b w' (by rw [bl_str]; exact hA0.2) (by rw [bl_str]; exact hs) (hw'.bx (b, _, rdr _ _ _) (by simp))
  have hFault : ∀ {w' : World} {bx : Bx} {hp : List Seg} {x : Nat × TypeId × List Value}, WOk ⟨w, kys [] []⟩ (x :: (b, 234, rdr ⟨s.toArray⟩ a e0) :: bx) hp w' → _ := fun {w' bx hp x} hw' => Tryz.Fault_w ⟨s.toArray⟩ a e0 b w' (hw'.bx (b, _, rdr _ _ _) (by simp))
  simp only [bl_str] at hLeft
  have hsz : (bl ⟨s.toArray⟩).length = s.length := by rw [bl_str]
  refine At.quietT 10 2 true [] [hC (.int .i64 (s.length - a : Nat)), hC (.int .i64 e0)] ⟨by kernel_rfl, by kernel_rfl, rfl, by kernel_rfl, by kernel_rfl, by kernel_rfl, rfl, rfl, rfl⟩ rfl rfl rfl (by and_intros <;> first | exact fun w' hw' => hLeft hw' | exact fun w' hw' => hFault hw' | exact oK) rfl ?_
  refine AtD.fork1 10 (by kernel_rfl) (StepD.by [] rfl rfl rfl rfl trivial (OpOk.box rfl rfl rfl fun gr hgr => ?_))
  refine AtD.pures (ob := True) true (by kernel_rfl) [11] (fuel := 0) (by kernel_rfl) rfl oK ?_
  refine AtD.done (by kernel_rfl) ?_
  have hdr : (s.drop a).length ≤ 9223372036854775807 := by rw [List.length_drop]; omega
  have hdd : (((bl ⟨s.toArray⟩).length : Int) - ((s.length - a : Nat) : Int)).toNat = a := by omega
  refine At.keep [true, true, false, true] [] rfl ?_
  rw [hdd, bl_str]
  refine At.run 100 true [] [] rfl trivial ?_
  refine At.step [] rfl rfl rfl rfl rfl trivial (OpOk.call rfl (fun w' _ => Tryz.holders_w w') ?_)
  rintro v bx' hp' ⟨gf, rfl, rfl, rfl⟩
  refine At.run 100 true [] [] rfl trivial ?_
  refine At.step [] rfl rfl rfl rfl rfl trivial (OpOk.callO [false, true] [] rfl rfl (fun w' hw' hown => Tryz.snapGetHolder_w (s.drop a) e0 false 32 gr gf w' (by omega) (by have := hdr; omega) (hw'.bx (gf, _, Tryz.holdersL) (List.mem_cons_self ..)) hown (notKeyB hw')) ?_)
  rintro v bx' hp' ⟨y1, m1, x1, s1, e1, u1, rfl, rfl, rfl, hR1⟩
  have hl1 := hR1.slen
  refine At.run 100 true [] [hB 2] rfl (by and_intros <;> first | simp [Value.oneCell', sv]; done | exact oK) ?_
  refine At.keep [true, false, true, true] [true] rfl ?_
  refine At.run 100 true [] [] rfl trivial ?_
  refine At.step [] rfl rfl rfl rfl rfl trivial (OpOk.call rfl (fun w' _ => Tryz.stakes_w w') ?_)
  rintro v bx' hp' ⟨gf, rfl, rfl, rfl⟩
  refine At.run 100 true [] [] rfl trivial ?_
  refine At.step [] rfl rfl rfl rfl rfl trivial (OpOk.callO [false, true] [] rfl rfl (fun w' hw' hown => Tryz.snapGetStake_w s1 e1 u1 1024 gr gf w' (by omega) (by have := hR1.slen; omega) (hw'.bx (gf, _, Tryz.stakesL) (List.mem_cons_self ..)) hown (notKeyB hw')) ?_)
  rintro v bx' hp' ⟨y2, m2, x2, s2, e2, u2, rfl, rfl, rfl, hR2⟩
  have hl2 := hR2.slen
  refine At.run 100 true [] [hB 2] rfl (by and_intros <;> first | simp [Value.oneCell', sv]; done | exact oK) ?_
  refine At.keep [true, false, true, true] [true, true] rfl ?_
  refine At.run 100 true [] [] rfl trivial ?_
  refine At.step [] rfl rfl rfl rfl rfl trivial (OpOk.call rfl (fun w' _ => Tryz.opens_w w') ?_)
  rintro v bx' hp' ⟨gf, rfl, rfl, rfl⟩
  refine At.run 100 true [] [] rfl trivial ?_
  refine At.step [] rfl rfl rfl rfl rfl trivial (OpOk.callO [false, true] [] rfl rfl (fun w' hw' hown => Tryz.snapGetOpen_w s2 e2 u2 64 gr gf w' (by omega) (by have := hR2.slen; omega) (hw'.bx (gf, _, Tryz.opensL) (List.mem_cons_self ..)) hown (notKeyB hw')) ?_)
  rintro v bx' hp' ⟨y3, m3, x3, s3, e3, u3, rfl, rfl, rfl, hR3⟩
  have hl3 := hR3.slen
  refine At.run 100 true [] [hB 2] rfl (by and_intros <;> first | simp [Value.oneCell', sv]; done | exact oK) ?_
  refine At.keep [true, false, true, true] [true, true, true] rfl ?_
  refine At.run 100 true [] [] rfl trivial ?_
  refine At.step [] rfl rfl rfl rfl rfl trivial (OpOk.call rfl (fun w' _ => Tryz.rates_w w') ?_)
  rintro v bx' hp' ⟨gf, rfl, rfl, rfl⟩
  refine At.run 100 true [] [] rfl trivial ?_
  refine At.step [] rfl rfl rfl rfl rfl trivial (OpOk.callO [false, true] [] rfl rfl (fun w' hw' hown => Tryz.snapGetRate_w s3 e3 u3 32 gr gf w' (by omega) (by have := hR3.slen; omega) (hw'.bx (gf, _, Tryz.ratesL) (List.mem_cons_self ..)) hown (notKeyB hw')) ?_)
  rintro v bx' hp' ⟨y4, m4, x4, s4, e4, u4, rfl, rfl, rfl, hR4⟩
  have hl4 := hR4.slen
  refine At.run 100 true [] [hB 2] rfl (by and_intros <;> first | simp [Value.oneCell', sv]; done | exact oK) ?_
  refine At.keep [true, false, true, true] [true, true, true, true] rfl ?_
  have hch := getBk_chain hN hR1 hR2 hR3 hR4
  by_cases he : e4 = 0
  · subst he
    by_cases hs4 : s4 = []
    · subst hs4
      cases hu : u4 with
      | true =>
        subst hu
        have hb := hch.2.1 rfl (.inr rfl)
        refine At.run 100 true [false, false, true, true] [hB 0, hB 0, hB 0, hB 2] rfl (by and_intros <;> first | simp [Value.oneCell']; done | exact oK) ?_
        refine At.keep [true, true, true] [] rfl ?_
        refine At.nilRow 103 4 ?_
        refine At.nilRow 105 3 ?_
        refine At.nilRow 107 6 ?_
        refine At.nilRow 109 2 ?_
        exact At.retK [] [true, true, true, true] [hB 2] rfl rfl Tryz.func44 rfl oK ⟨⟨none, none, none, none, 0, 0, 0, 0⟩, by rw [hb]; rfl, rfl, by rw [hb]; rfl⟩
      | false =>
        subst hu
        obtain ⟨bk, hbi, hbS, hbc, rfl, rfl, rfl, rfl, rfl, rfl, rfl, rfl, hb⟩ := hch.2.2 rfl rfl rfl
        have hM : ∀ {bx : Bx}, CallOb Tryz.prog ⟨w, kys [] []⟩ bx [Seg.row y4 109 2 bk.R.length bk.R.length (bk.R.flatMap i64s), Seg.row y3 107 6 bk.O.length bk.O.length (bk.O.flatMap i64s), Seg.row y2 105 3 bk.S.length bk.S.length (bk.S.flatMap i64s), Seg.row y1 103 4 bk.H.length bk.H.length (bk.H.flatMap i64s)] 92 [.agg ⟨[sv y1 bk.H.length bk.H.length, sv y2 bk.S.length bk.S.length, sv y3 bk.O.length bk.O.length, sv y4 bk.R.length bk.R.length, .int .i64 n]⟩] (.bool (mayB bk)) := fun {_} w' hw' => by
          have := Tryz.May_w bk (BkG.A ⟨y1, y2, y3, y4, bk.H.length, bk.S.length, bk.O.length, bk.R.length⟩) w' hbi (Tryz.bkRows_ok hw' (fun s hs => hs))
          rw [← hbc]; exact this
        cases hm : mayB bk with
        | true =>
          rw [hm] at hM hb
          rw [if_pos rfl] at hb
          refine At.run 100 true [false, false, false, false] [hB 0, hB 0, hB 0, hB 1, hC (.bool true), hB 1, hB 2] rfl (by and_intros <;> first | exact hM | simp [Value.oneCell', sv]; done | exact oK) ?_
          exact At.retK [] [true, true, true, true] [hB 2] rfl rfl Tryz.func44 rfl oK ⟨⟨y1, y2, y3, y4, bk.H.length, bk.S.length, bk.O.length, bk.R.length⟩, by rw [hb]; simp only [bkV, hbc]; rfl, rfl, by rw [hb]; rfl⟩
        | false =>
          rw [hm] at hM hb
          rw [if_neg (by simp)] at hb
          refine At.run 100 true [false, false, false, true] [hB 0, hB 0, hB 0, hB 1, hC (.bool false), hB 2] rfl (by and_intros <;> first | exact hM | simp [Value.oneCell']; done | exact oK) ?_
          refine At.keep [true, true, true] [] rfl ?_
          refine At.nilRow 103 4 ?_
          refine At.nilRow 105 3 ?_
          refine At.nilRow 107 6 ?_
          refine At.nilRow 109 2 ?_
          exact At.retK [] [true, true, true, true] [hB 2] rfl rfl Tryz.func44 rfl oK ⟨⟨none, none, none, none, 0, 0, 0, 0⟩, by rw [hb]; rfl, rfl, by rw [hb]; rfl⟩
    · have hb := hch.2.1 rfl (.inl hs4)
      refine At.run 100 true [false, true, true, true] [hB 0, hB 0, hB 2] rfl (by and_intros <;> first | simp [hs4]; done | exact oK) ?_
      refine At.keep [true, true, true] [] rfl ?_
      refine At.nilRow 103 4 ?_
      refine At.nilRow 105 3 ?_
      refine At.nilRow 107 6 ?_
      refine At.nilRow 109 2 ?_
      exact At.retK [] [true, true, true, true] [hB 2] rfl rfl Tryz.func44 rfl oK ⟨⟨none, none, none, none, 0, 0, 0, 0⟩, by rw [hb]; rfl, rfl, by rw [hb]; rfl⟩
  · have hb := hch.1 he
    refine At.run 100 true [true] [hB 0] rfl oK ?_
    refine At.draw 7 rfl rfl rfl rfl ?_
    refine AtD.pures (ob := True) true (by kernel_rfl) [0, 1, 2, 3] (fuel := 3) (by kernel_rfl) rfl oK ?_
    refine AtD.fork2 4 5 (by kernel_rfl) ?_ ?_
    · refine StepD.by [] rfl rfl rfl rfl trivial (OpOk.one true [] [hB 0] rfl rfl ?_)
      refine AtD.fork1 5 (by kernel_rfl) (StepD.by0 [] rfl rfl rfl trivial (OpOk.one true [] [hB 2] rfl (by and_intros <;> first | simp [Value.oneCell']; done | exact oK) ?_))
      refine AtD.pures (ob := True) true (by kernel_rfl) [6] (fuel := 0) (by kernel_rfl) rfl trivial ?_
      refine AtD.done (by kernel_rfl) ?_
      refine At.run 100 true [] [] rfl trivial ?_
      refine At.keep [true, true, true] [] rfl ?_
      refine At.nilRow 103 4 ?_
      refine At.nilRow 105 3 ?_
      refine At.nilRow 107 6 ?_
      refine At.nilRow 109 2 ?_
      exact At.retK [] [true, true, true, true] [hB 2] rfl rfl Tryz.func44 rfl oK ⟨⟨none, none, none, none, 0, 0, 0, 0⟩, by rw [hb]; rfl, rfl, by rw [hb]; rfl⟩
    · refine StepD.by0 [] rfl rfl rfl trivial (OpOk.one true [] [hB 2] rfl (by and_intros <;> first | simp [Value.oneCell']; done | exact oK) ?_)
      refine AtD.fork1 4 (by kernel_rfl) (StepD.by [] rfl rfl rfl rfl trivial (OpOk.one true [] [hB 0] rfl rfl ?_))
      refine AtD.pures (ob := True) true (by kernel_rfl) [6] (fuel := 0) (by kernel_rfl) rfl trivial ?_
      refine AtD.done (by kernel_rfl) ?_
      refine At.run 100 true [] [] rfl trivial ?_
      refine At.keep [true, true, true] [] rfl ?_
      refine At.nilRow 103 4 ?_
      refine At.nilRow 105 3 ?_
      refine At.nilRow 107 6 ?_
      refine At.nilRow 109 2 ?_
      exact At.retK [] [true, true, true, true] [hB 2] rfl rfl Tryz.func44 rfl oK ⟨⟨none, none, none, none, 0, 0, 0, 0⟩, by rw [hb]; rfl, rfl, by rw [hb]; rfl⟩

end Go.Proofs

/-
  Walks of layer 13: the reference puts a book.
-/
namespace Go.Proofs
open Go Go.Eng
set_option maxRecDepth 100000
set_option maxHeartbeats 4000000
attribute [local irreducible] Tri

def colsB (b : Bk) : List (List Int) := [colOf b.H 0, colOf b.H 1, colOf b.H 2, colOf b.H 3, colOf b.S 0, colOf b.S 1, colOf b.S 2, colOf b.O 0, colOf b.O 1, colOf b.O 2, colOf b.O 3, colOf b.O 4, colOf b.O 5, colOf b.R 0, colOf b.R 1]
theorem colsB_put (b : Bk) : numL b.c.toNat ++ (colsB b).flatMap colL = bookB b := by
  simp [colsB, bookB, putB, List.range_succ]
theorem flat_bound (B : Nat) : ∀ (ls : List (List Int)) (i : Nat), (∀ c, c ∈ ls → (colL c).length ≤ B) → ((ls.take i).flatMap colL).length ≤ i * B
  | [], i, _ => by simp
  | c :: ls, 0, _ => by simp
  | c :: ls, i + 1, h => by
    rw [List.take_succ_cons, List.flatMap_cons, List.length_append, Nat.succ_mul]
    have h1 := h c (by simp)
    have h2 := flat_bound B ls i (fun d hd => h d (by simp [hd]))
    omega
theorem colsB_bound (b : Bk) (hi : BkIn b) (h1 : b.H.length ≤ 65536) (h2 : b.S.length ≤ 65536) (h3 : b.O.length ≤ 65536) (h4 : b.R.length ≤ 65536) : ∀ c, c ∈ colsB b → (colL c).length ≤ 1310730 := by
  have key : ∀ (sz : Nat) (l : List (List Int)) (f : Nat), Recs sz l → l.length ≤ 65536 → (colL (colOf l f)).length ≤ 1310730 := fun sz l f hr hl => by
    have := colL_len (colOf l f) (colOf_in hr f) (by rw [colOf_len]; omega)
    rw [colOf_len] at this; omega
  intro c hc
  simp only [colsB, List.mem_cons, List.not_mem_nil, or_false] at hc
  rcases hc with rfl | rfl | rfl | rfl | rfl | rfl | rfl | rfl | rfl | rfl | rfl | rfl | rfl | rfl | rfl
  all_goals first | exact key 4 _ _ hi.r1 h1 | exact key 3 _ _ hi.r2 h2 | exact key 6 _ _ hi.r3 h3 | exact key 2 _ _ hi.r4 h4
theorem Tryz.cols15 (b : Bk) (g : Nat → Option Nat) (c : Nat → Nat) (h1 : b.H.length ≤ 65536) (h2 : b.S.length ≤ 65536) (h3 : b.O.length ≤ 65536) (h4 : b.R.length ≤ 65536) (i : Nat) (hi : i < 15) :
    ∃ (gg : Option Nat) (cc : Nat) (xs : List Int), ([sv (g 0) b.H.length (c 0), sv (g 1) b.H.length (c 1), sv (g 2) b.H.length (c 2), sv (g 3) b.H.length (c 3), sv (g 4) b.S.length (c 4), sv (g 5) b.S.length (c 5), sv (g 6) b.S.length (c 6), sv (g 7) b.O.length (c 7), sv (g 8) b.O.length (c 8), sv (g 9) b.O.length (c 9), sv (g 10) b.O.length (c 10), sv (g 11) b.O.length (c 11), sv (g 12) b.O.length (c 12), sv (g 13) b.R.length (c 13), sv (g 14) b.R.length (c 14)] : List Value)[i]? = some (sv gg xs.length cc) ∧ (colsB b)[i]? = some xs ∧ ([Seg.row (g 0) 2 1 b.H.length (c 0) (i64s (colOf b.H 0)), Seg.row (g 1) 2 1 b.H.length (c 1) (i64s (colOf b.H 1)), Seg.row (g 2) 2 1 b.H.length (c 2) (i64s (colOf b.H 2)), Seg.row (g 3) 2 1 b.H.length (c 3) (i64s (colOf b.H 3)), Seg.row (g 4) 2 1 b.S.length (c 4) (i64s (colOf b.S 0)), Seg.row (g 5) 2 1 b.S.length (c 5) (i64s (colOf b.S 1)), Seg.row (g 6) 2 1 b.S.length (c 6) (i64s (colOf b.S 2)), Seg.row (g 7) 2 1 b.O.length (c 7) (i64s (colOf b.O 0)), Seg.row (g 8) 2 1 b.O.length (c 8) (i64s (colOf b.O 1)), Seg.row (g 9) 2 1 b.O.length (c 9) (i64s (colOf b.O 2)), Seg.row (g 10) 2 1 b.O.length (c 10) (i64s (colOf b.O 3)), Seg.row (g 11) 2 1 b.O.length (c 11) (i64s (colOf b.O 4)), Seg.row (g 12) 2 1 b.O.length (c 12) (i64s (colOf b.O 5)), Seg.row (g 13) 2 1 b.R.length (c 13) (i64s (colOf b.R 0)), Seg.row (g 14) 2 1 b.R.length (c 14) (i64s (colOf b.R 1))] : List Seg)[i]? = some (Seg.row gg 2 1 xs.length cc (i64s xs)) ∧ xs.length ≤ 65536 := by
  have key : ∀ (gg : Option Nat) (cc : Nat) (l : List (List Int)) (f : Nat), l.length ≤ 65536 → (([sv (g 0) b.H.length (c 0), sv (g 1) b.H.length (c 1), sv (g 2) b.H.length (c 2), sv (g 3) b.H.length (c 3), sv (g 4) b.S.length (c 4), sv (g 5) b.S.length (c 5), sv (g 6) b.S.length (c 6), sv (g 7) b.O.length (c 7), sv (g 8) b.O.length (c 8), sv (g 9) b.O.length (c 9), sv (g 10) b.O.length (c 10), sv (g 11) b.O.length (c 11), sv (g 12) b.O.length (c 12), sv (g 13) b.R.length (c 13), sv (g 14) b.R.length (c 14)] : List Value)[i]? = some (sv gg l.length cc) ∧ (colsB b)[i]? = some (colOf l f) ∧ ([Seg.row (g 0) 2 1 b.H.length (c 0) (i64s (colOf b.H 0)), Seg.row (g 1) 2 1 b.H.length (c 1) (i64s (colOf b.H 1)), Seg.row (g 2) 2 1 b.H.length (c 2) (i64s (colOf b.H 2)), Seg.row (g 3) 2 1 b.H.length (c 3) (i64s (colOf b.H 3)), Seg.row (g 4) 2 1 b.S.length (c 4) (i64s (colOf b.S 0)), Seg.row (g 5) 2 1 b.S.length (c 5) (i64s (colOf b.S 1)), Seg.row (g 6) 2 1 b.S.length (c 6) (i64s (colOf b.S 2)), Seg.row (g 7) 2 1 b.O.length (c 7) (i64s (colOf b.O 0)), Seg.row (g 8) 2 1 b.O.length (c 8) (i64s (colOf b.O 1)), Seg.row (g 9) 2 1 b.O.length (c 9) (i64s (colOf b.O 2)), Seg.row (g 10) 2 1 b.O.length (c 10) (i64s (colOf b.O 3)), Seg.row (g 11) 2 1 b.O.length (c 11) (i64s (colOf b.O 4)), Seg.row (g 12) 2 1 b.O.length (c 12) (i64s (colOf b.O 5)), Seg.row (g 13) 2 1 b.R.length (c 13) (i64s (colOf b.R 0)), Seg.row (g 14) 2 1 b.R.length (c 14) (i64s (colOf b.R 1))] : List Seg)[i]? = some (Seg.row gg 2 1 l.length cc (i64s (colOf l f)))) →
      ∃ (gg : Option Nat) (cc : Nat) (xs : List Int), ([sv (g 0) b.H.length (c 0), sv (g 1) b.H.length (c 1), sv (g 2) b.H.length (c 2), sv (g 3) b.H.length (c 3), sv (g 4) b.S.length (c 4), sv (g 5) b.S.length (c 5), sv (g 6) b.S.length (c 6), sv (g 7) b.O.length (c 7), sv (g 8) b.O.length (c 8), sv (g 9) b.O.length (c 9), sv (g 10) b.O.length (c 10), sv (g 11) b.O.length (c 11), sv (g 12) b.O.length (c 12), sv (g 13) b.R.length (c 13), sv (g 14) b.R.length (c 14)] : List Value)[i]? = some (sv gg xs.length cc) ∧ (colsB b)[i]? = some xs ∧ ([Seg.row (g 0) 2 1 b.H.length (c 0) (i64s (colOf b.H 0)), Seg.row (g 1) 2 1 b.H.length (c 1) (i64s (colOf b.H 1)), Seg.row (g 2) 2 1 b.H.length (c 2) (i64s (colOf b.H 2)), Seg.row (g 3) 2 1 b.H.length (c 3) (i64s (colOf b.H 3)), Seg.row (g 4) 2 1 b.S.length (c 4) (i64s (colOf b.S 0)), Seg.row (g 5) 2 1 b.S.length (c 5) (i64s (colOf b.S 1)), Seg.row (g 6) 2 1 b.S.length (c 6) (i64s (colOf b.S 2)), Seg.row (g 7) 2 1 b.O.length (c 7) (i64s (colOf b.O 0)), Seg.row (g 8) 2 1 b.O.length (c 8) (i64s (colOf b.O 1)), Seg.row (g 9) 2 1 b.O.length (c 9) (i64s (colOf b.O 2)), Seg.row (g 10) 2 1 b.O.length (c 10) (i64s (colOf b.O 3)), Seg.row (g 11) 2 1 b.O.length (c 11) (i64s (colOf b.O 4)), Seg.row (g 12) 2 1 b.O.length (c 12) (i64s (colOf b.O 5)), Seg.row (g 13) 2 1 b.R.length (c 13) (i64s (colOf b.R 0)), Seg.row (g 14) 2 1 b.R.length (c 14) (i64s (colOf b.R 1))] : List Seg)[i]? = some (Seg.row gg 2 1 xs.length cc (i64s xs)) ∧ xs.length ≤ 65536 := by
    intro gg cc l f hl ⟨e1, e2, e3⟩
    exact ⟨gg, cc, colOf l f, by rw [colOf_len]; exact e1, e2, by rw [colOf_len]; exact e3, by rw [colOf_len]; exact hl⟩
  match i, hi with
  | 0, _ => exact key (g 0) (c 0) b.H 0 h1 ⟨rfl, rfl, rfl⟩
  | 1, _ => exact key (g 1) (c 1) b.H 1 h1 ⟨rfl, rfl, rfl⟩
  | 2, _ => exact key (g 2) (c 2) b.H 2 h1 ⟨rfl, rfl, rfl⟩
  | 3, _ => exact key (g 3) (c 3) b.H 3 h1 ⟨rfl, rfl, rfl⟩
  | 4, _ => exact key (g 4) (c 4) b.S 0 h2 ⟨rfl, rfl, rfl⟩
  | 5, _ => exact key (g 5) (c 5) b.S 1 h2 ⟨rfl, rfl, rfl⟩
  | 6, _ => exact key (g 6) (c 6) b.S 2 h2 ⟨rfl, rfl, rfl⟩
  | 7, _ => exact key (g 7) (c 7) b.O 0 h3 ⟨rfl, rfl, rfl⟩
  | 8, _ => exact key (g 8) (c 8) b.O 1 h3 ⟨rfl, rfl, rfl⟩
  | 9, _ => exact key (g 9) (c 9) b.O 2 h3 ⟨rfl, rfl, rfl⟩
  | 10, _ => exact key (g 10) (c 10) b.O 3 h3 ⟨rfl, rfl, rfl⟩
  | 11, _ => exact key (g 11) (c 11) b.O 4 h3 ⟨rfl, rfl, rfl⟩
  | 12, _ => exact key (g 12) (c 12) b.O 5 h3 ⟨rfl, rfl, rfl⟩
  | 13, _ => exact key (g 13) (c 13) b.R 0 h4 ⟨rfl, rfl, rfl⟩
  | 14, _ => exact key (g 14) (c 14) b.R 1 h4 ⟨rfl, rfl, rfl⟩

end Go.Proofs

/-
  Walks of layer 13: the reference gets a book.
-/
namespace Go.Proofs
open Go Go.Eng
set_option maxRecDepth 100000
set_option maxHeartbeats 4000000
attribute [local irreducible] Tri



theorem selL_none {α : Type} (l : List α) : selL [] l = [] := by cases l <;> rfl

theorem Tryz.rg13_H {Q : Value → Bx → List Seg → Prop} (w : World) (b2 b5 b6 n : Nat) {x0 x1 x2 x3 y0 y1 y2 z0 z1 z2 z3 z4 z5 v0 v1 : List Int} {G0 G1 G2 G3 G4 G5 G6 G7 G8 G9 G10 G11 G12 G13 G14 : Option Nat} {c : Nat → Nat}  (m : x0.length ≤ 1024) (l1 : x1.length = x0.length) (l2 : x2.length = x0.length) (l3 : x3.length = x0.length)
    (hk : ∀ (h0 : Option Nat) (d0 : Nat), At (triCtx Tryz.prog 48 Tryz.f48 w [] Q) ⟨0, [0, 1, 0, 1, 1, 1, 1, 1, 1, 1, 1, 1, 1], []⟩ [] [(2, .pointer (some ⟨b2, 0, none⟩)), (5, .pointer (some ⟨b5, 0, none⟩)), (6, .pointer (some ⟨b6, 0, none⟩)), (15, .int .i64 0)] [(b6, 178, [sv G0 x0.length (c 0), sv G1 x1.length (c 1), sv G2 x2.length (c 2), sv G3 x3.length (c 3), sv G4 y0.length (c 4), sv G5 y1.length (c 5), sv G6 y2.length (c 6), sv G7 z0.length (c 7), sv G8 z1.length (c 8), sv G9 z2.length (c 9), sv G10 z3.length (c 10), sv G11 z4.length (c 11), sv G12 z5.length (c 12), sv G13 v0.length (c 13), sv G14 v1.length (c 14)]), (b5, 50, [sv h0 x0.length d0, sv none 0 0, sv none 0 0, sv none 0 0, .int .i64 n]), (b2, 50, [sv none 0 0, sv none 0 0, sv none 0 0, sv none 0 0, .int .i64 0])] [Seg.row none 109 2 0 0 [], Seg.row none 107 6 0 0 [], Seg.row none 105 3 0 0 ((rowsT 3 0 [y0, y1, y2]).flatMap i64s), Seg.row h0 103 4 x0.length d0 ((rowsT 4 x0.length [x0, x1, x2, x3]).flatMap i64s), Seg.row G14 2 1 v1.length (c 14) (i64s v1), Seg.row G13 2 1 v0.length (c 13) (i64s v0), Seg.row G12 2 1 z5.length (c 12) (i64s z5), Seg.row G11 2 1 z4.length (c 11) (i64s z4), Seg.row G10 2 1 z3.length (c 10) (i64s z3), Seg.row G9 2 1 z2.length (c 9) (i64s z2), Seg.row G8 2 1 z1.length (c 8) (i64s z1), Seg.row G7 2 1 z0.length (c 7) (i64s z0), Seg.row G6 2 1 y2.length (c 6) (i64s y2), Seg.row G5 2 1 y1.length (c 5) (i64s y1), Seg.row G4 2 1 y0.length (c 4) (i64s y0), Seg.row G3 2 1 x3.length (c 3) (i64s x3), Seg.row G2 2 1 x2.length (c 2) (i64s x2), Seg.row G1 2 1 x1.length (c 1) (i64s x1), Seg.row G0 2 1 x0.length (c 0) (i64s x0)] ⟨w, kys [] []⟩) :
    At (triCtx Tryz.prog 48 Tryz.f48 w [] Q) ⟨0, [0, 1, 0, 1, 1, 1, 1, 1, 1, 1, 1, 1], []⟩ [] [(2, .pointer (some ⟨b2, 0, none⟩)), (5, .pointer (some ⟨b5, 0, none⟩)), (6, .pointer (some ⟨b6, 0, none⟩)), (14, .int .i64 0)] [(b6, 178, [sv G0 x0.length (c 0), sv G1 x1.length (c 1), sv G2 x2.length (c 2), sv G3 x3.length (c 3), sv G4 y0.length (c 4), sv G5 y1.length (c 5), sv G6 y2.length (c 6), sv G7 z0.length (c 7), sv G8 z1.length (c 8), sv G9 z2.length (c 9), sv G10 z3.length (c 10), sv G11 z4.length (c 11), sv G12 z5.length (c 12), sv G13 v0.length (c 13), sv G14 v1.length (c 14)]), (b5, 50, [sv none 0 0, sv none 0 0, sv none 0 0, sv none 0 0, .int .i64 n]), (b2, 50, [sv none 0 0, sv none 0 0, sv none 0 0, sv none 0 0, .int .i64 0])] [Seg.row none 109 2 0 0 [], Seg.row none 107 6 0 0 [], Seg.row none 105 3 0 0 [], Seg.row none 103 4 0 0 ((rowsT 4 0 [x0, x1, x2, x3]).flatMap i64s), Seg.row G14 2 1 v1.length (c 14) (i64s v1), Seg.row G13 2 1 v0.length (c 13) (i64s v0), Seg.row G12 2 1 z5.length (c 12) (i64s z5), Seg.row G11 2 1 z4.length (c 11) (i64s z4), Seg.row G10 2 1 z3.length (c 10) (i64s z3), Seg.row G9 2 1 z2.length (c 9) (i64s z2), Seg.row G8 2 1 z1.length (c 8) (i64s z1), Seg.row G7 2 1 z0.length (c 7) (i64s z0), Seg.row G6 2 1 y2.length (c 6) (i64s y2), Seg.row G5 2 1 y1.length (c 5) (i64s y1), Seg.row G4 2 1 y0.length (c 4) (i64s y0), Seg.row G3 2 1 x3.length (c 3) (i64s x3), Seg.row G2 2 1 x2.length (c 2) (i64s x2), Seg.row G1 2 1 x1.length (c 1) (i64s x1), Seg.row G0 2 1 x0.length (c 0) (i64s x0)] ⟨w, kys [] []⟩ := by
  refine At.loop (n := x0.length) (env0 := [(2, .pointer (some ⟨b2, 0, none⟩)), (5, .pointer (some ⟨b5, 0, none⟩)), (6, .pointer (some ⟨b6, 0, none⟩)), (14, .int .i64 0)]) (fun mm env bx hp => ∃ (i : Nat) (gq : Option Nat) (cq : Nat), mm = x0.length - i ∧ i ≤ x0.length ∧ env = [(2, .pointer (some ⟨b2, 0, none⟩)), (5, .pointer (some ⟨b5, 0, none⟩)), (6, .pointer (some ⟨b6, 0, none⟩)), (14, .int .i64 i)] ∧
    bx = [(b6, 178, [sv G0 x0.length (c 0), sv G1 x1.length (c 1), sv G2 x2.length (c 2), sv G3 x3.length (c 3), sv G4 y0.length (c 4), sv G5 y1.length (c 5), sv G6 y2.length (c 6), sv G7 z0.length (c 7), sv G8 z1.length (c 8), sv G9 z2.length (c 9), sv G10 z3.length (c 10), sv G11 z4.length (c 11), sv G12 z5.length (c 12), sv G13 v0.length (c 13), sv G14 v1.length (c 14)]), (b5, 50, [sv gq i cq, sv none 0 0, sv none 0 0, sv none 0 0, .int .i64 n]), (b2, 50, [sv none 0 0, sv none 0 0, sv none 0 0, sv none 0 0, .int .i64 0])] ∧ hp = [Seg.row none 109 2 0 0 [], Seg.row none 107 6 0 0 [], Seg.row none 105 3 0 0 [], Seg.row gq 103 4 i cq ((rowsT 4 i [x0, x1, x2, x3]).flatMap i64s), Seg.row G14 2 1 v1.length (c 14) (i64s v1), Seg.row G13 2 1 v0.length (c 13) (i64s v0), Seg.row G12 2 1 z5.length (c 12) (i64s z5), Seg.row G11 2 1 z4.length (c 11) (i64s z4), Seg.row G10 2 1 z3.length (c 10) (i64s z3), Seg.row G9 2 1 z2.length (c 9) (i64s z2), Seg.row G8 2 1 z1.length (c 8) (i64s z1), Seg.row G7 2 1 z0.length (c 7) (i64s z0), Seg.row G6 2 1 y2.length (c 6) (i64s y2), Seg.row G5 2 1 y1.length (c 5) (i64s y1), Seg.row G4 2 1 y0.length (c 4) (i64s y0), Seg.row G3 2 1 x3.length (c 3) (i64s x3), Seg.row G2 2 1 x2.length (c 2) (i64s x2), Seg.row G1 2 1 x1.length (c 1) (i64s x1), Seg.row G0 2 1 x0.length (c 0) (i64s x0)]) rfl ⟨0, none, 0, rfl, by omega, rfl, rfl, rfl⟩ ⟨rfl, rfl, rfl, rfl, trivial⟩ ?_
  rintro mm env bx hp ⟨i, h0, d0, rfl, hi0, rfl, rfl, rfl⟩ ih
  by_cases hlt : i < x0.length
  · have hle : i < 1024 := by omega
    obtain ⟨q0, e0⟩ : ∃ q, x0[i]? = some q := ⟨_, List.getElem?_eq_getElem (by omega)⟩
    obtain ⟨q1, e1⟩ : ∃ q, x1[i]? = some q := ⟨_, List.getElem?_eq_getElem (by omega)⟩
    obtain ⟨q2, e2⟩ : ∃ q, x2[i]? = some q := ⟨_, List.getElem?_eq_getElem (by omega)⟩
    obtain ⟨q3, e3⟩ : ∃ q, x3[i]? = some q := ⟨_, List.getElem?_eq_getElem (by omega)⟩
    refine At.rowSome 18 rfl (by omega) (fun gg0 hg0 => ?_)
    subst hg0
    refine At.rowSome 17 rfl (by omega) (fun gg1 hg1 => ?_)
    subst hg1
    refine At.rowSome 16 rfl (by omega) (fun gg2 hg2 => ?_)
    subst hg2
    refine At.rowSome 15 rfl (by omega) (fun gg3 hg3 => ?_)
    subst hg3
    have r0 : ∀ {bx : Bx} {sa sb sc sd : Seg}, RdW ⟨w, kys [] []⟩ bx [sa, sb, sc, sd, Seg.row G14 2 1 v1.length (c 14) (i64s v1), Seg.row G13 2 1 v0.length (c 13) (i64s v0), Seg.row G12 2 1 z5.length (c 12) (i64s z5), Seg.row G11 2 1 z4.length (c 11) (i64s z4), Seg.row G10 2 1 z3.length (c 10) (i64s z3), Seg.row G9 2 1 z2.length (c 9) (i64s z2), Seg.row G8 2 1 z1.length (c 8) (i64s z1), Seg.row G7 2 1 z0.length (c 7) (i64s z0), Seg.row G6 2 1 y2.length (c 6) (i64s y2), Seg.row G5 2 1 y1.length (c 5) (i64s y1), Seg.row G4 2 1 y0.length (c 4) (i64s y0), Seg.row (some gg3) 2 1 x3.length (c 3) (i64s x3), Seg.row (some gg2) 2 1 x2.length (c 2) (i64s x2), Seg.row (some gg1) 2 1 x1.length (c 1) (i64s x1), Seg.row (some gg0) 2 1 x0.length (c 0) (i64s x0)] gg0 (0 + (i : Int).toNat * 1) [.int .i64 q0] := fun {bx sa sb sc sd} => RdW.row (j := 18) rfl (fun i' u hu => by
      match i', hu with
      | 0, hu => simp at hu; subst hu; rw [show 0 + (i : Int).toNat * 1 + 0 = i by omega]; exact i64s_get e0)
    have r1 : ∀ {bx : Bx} {sa sb sc sd : Seg}, RdW ⟨w, kys [] []⟩ bx [sa, sb, sc, sd, Seg.row G14 2 1 v1.length (c 14) (i64s v1), Seg.row G13 2 1 v0.length (c 13) (i64s v0), Seg.row G12 2 1 z5.length (c 12) (i64s z5), Seg.row G11 2 1 z4.length (c 11) (i64s z4), Seg.row G10 2 1 z3.length (c 10) (i64s z3), Seg.row G9 2 1 z2.length (c 9) (i64s z2), Seg.row G8 2 1 z1.length (c 8) (i64s z1), Seg.row G7 2 1 z0.length (c 7) (i64s z0), Seg.row G6 2 1 y2.length (c 6) (i64s y2), Seg.row G5 2 1 y1.length (c 5) (i64s y1), Seg.row G4 2 1 y0.length (c 4) (i64s y0), Seg.row (some gg3) 2 1 x3.length (c 3) (i64s x3), Seg.row (some gg2) 2 1 x2.length (c 2) (i64s x2), Seg.row (some gg1) 2 1 x1.length (c 1) (i64s x1), Seg.row (some gg0) 2 1 x0.length (c 0) (i64s x0)] gg1 (0 + (i : Int).toNat * 1) [.int .i64 q1] := fun {bx sa sb sc sd} => RdW.row (j := 17) rfl (fun i' u hu => by
      match i', hu with
      | 0, hu => simp at hu; subst hu; rw [show 0 + (i : Int).toNat * 1 + 0 = i by omega]; exact i64s_get e1)
    have r2 : ∀ {bx : Bx} {sa sb sc sd : Seg}, RdW ⟨w, kys [] []⟩ bx [sa, sb, sc, sd, Seg.row G14 2 1 v1.length (c 14) (i64s v1), Seg.row G13 2 1 v0.length (c 13) (i64s v0), Seg.row G12 2 1 z5.length (c 12) (i64s z5), Seg.row G11 2 1 z4.length (c 11) (i64s z4), Seg.row G10 2 1 z3.length (c 10) (i64s z3), Seg.row G9 2 1 z2.length (c 9) (i64s z2), Seg.row G8 2 1 z1.length (c 8) (i64s z1), Seg.row G7 2 1 z0.length (c 7) (i64s z0), Seg.row G6 2 1 y2.length (c 6) (i64s y2), Seg.row G5 2 1 y1.length (c 5) (i64s y1), Seg.row G4 2 1 y0.length (c 4) (i64s y0), Seg.row (some gg3) 2 1 x3.length (c 3) (i64s x3), Seg.row (some gg2) 2 1 x2.length (c 2) (i64s x2), Seg.row (some gg1) 2 1 x1.length (c 1) (i64s x1), Seg.row (some gg0) 2 1 x0.length (c 0) (i64s x0)] gg2 (0 + (i : Int).toNat * 1) [.int .i64 q2] := fun {bx sa sb sc sd} => RdW.row (j := 16) rfl (fun i' u hu => by
      match i', hu with
      | 0, hu => simp at hu; subst hu; rw [show 0 + (i : Int).toNat * 1 + 0 = i by omega]; exact i64s_get e2)
    have r3 : ∀ {bx : Bx} {sa sb sc sd : Seg}, RdW ⟨w, kys [] []⟩ bx [sa, sb, sc, sd, Seg.row G14 2 1 v1.length (c 14) (i64s v1), Seg.row G13 2 1 v0.length (c 13) (i64s v0), Seg.row G12 2 1 z5.length (c 12) (i64s z5), Seg.row G11 2 1 z4.length (c 11) (i64s z4), Seg.row G10 2 1 z3.length (c 10) (i64s z3), Seg.row G9 2 1 z2.length (c 9) (i64s z2), Seg.row G8 2 1 z1.length (c 8) (i64s z1), Seg.row G7 2 1 z0.length (c 7) (i64s z0), Seg.row G6 2 1 y2.length (c 6) (i64s y2), Seg.row G5 2 1 y1.length (c 5) (i64s y1), Seg.row G4 2 1 y0.length (c 4) (i64s y0), Seg.row (some gg3) 2 1 x3.length (c 3) (i64s x3), Seg.row (some gg2) 2 1 x2.length (c 2) (i64s x2), Seg.row (some gg1) 2 1 x1.length (c 1) (i64s x1), Seg.row (some gg0) 2 1 x0.length (c 0) (i64s x0)] gg3 (0 + (i : Int).toNat * 1) [.int .i64 q3] := fun {bx sa sb sc sd} => RdW.row (j := 15) rfl (fun i' u hu => by
      match i', hu with
      | 0, hu => simp at hu; subst hu; rw [show 0 + (i : Int).toNat * 1 + 0 = i by omega]; exact i64s_get e3)
    have hrow : i64s [q0, q1, q2, q3] = i64s (Eng.rowAt 4 [x0, x1, x2, x3] i) := by simp [Eng.rowAt, nthI, List.range_succ, e0, e1, e2, e3]
    refine At.run 100 true [true] [hB 0] rfl oK ?_
    refine At.draw 27 rfl rfl rfl rfl ?_
    refine AtD.pures (ob := True) true (by kernel_rfl) [0] (fuel := 26) (by kernel_rfl) rfl oK ?_
    refine AtD.late 2 21 1 23 3 true [] [hB 0, hR [.int .i64 q0], hB 0, hR [.int .i64 q1], hB 0, hR [.int .i64 q2], hB 0, hR [.int .i64 q3]] [hB 1] ⟨by kernel_rfl, by kernel_rfl, by kernel_rfl, rfl, by kernel_rfl, by kernel_rfl, rfl, rfl, by kernel_rfl⟩ rfl rfl rfl (by and_intros <;> first | exact r0 | exact r1 | exact r2 | exact r3 | exact oK) rfl rfl oK ?_ ?_
    · refine AtD.fork1 23 (by kernel_rfl) (StepD.by [] rfl rfl rfl rfl trivial (OpOk.buildSlice rfl rfl rfl rfl rfl rfl rfl (fun bb hbb => ?_)))
      refine AtD.fork1 24 (by kernel_rfl) (StepD.by [] rfl rfl rfl rfl trivial (OpOk.append 3 4 32 (i64s [q0, q1, q2, q3]) rfl rfl rfl rfl rfl rfl rfl (RdW.blk0 (i := 0) rfl) rfl (i64s_one _) (by omega) (by omega) fun gq' cq' => ?_))
      refine AtD.pures (ob := True) true (by kernel_rfl) [25] (fuel := 1) (by kernel_rfl) rfl oK ?_
      refine AtD.fork1 26 (by kernel_rfl) (StepD.by0 [] rfl rfl rfl trivial (OpOk.one true [] [hB 2] rfl (by and_intros <;> first | simp [Value.oneCell', sv]; done | exact oK) ?_))
      refine AtD.done (by kernel_rfl) ?_
      refine At.keep [false, true, true, true] [true, true, true, true, true, true, true, true, true, true, true, true, true, true, true, true, true, true, true] rfl ?_
      refine At.run 100 true [] [] rfl oK ?_
      refine At.weak (ih (x0.length - (i + 1)) _ _ _ (by omega) ⟨i + 1, gq', cq', rfl, by omega, rfl, rfl, ?_⟩) ⟨rfl, rfl, rfl, some_int_eq (by omega), trivial⟩
      simp only [rowsT_snoc, List.flatMap_append, List.flatMap_cons, List.flatMap_nil, List.append_nil, ← hrow]
    · refine StepD.by [] rfl rfl rfl rfl trivial (OpOk.buildSlice rfl rfl rfl rfl rfl rfl rfl (fun bb hbb => ?_))
      refine AtD.fork1 1 (by kernel_rfl) (StepD.by [] rfl rfl rfl rfl trivial (OpOk.one true [] [hB 2] rfl oK ?_))
      refine AtD.fork1 24 (by kernel_rfl) (StepD.by [] rfl rfl rfl rfl trivial (OpOk.append 3 4 32 (i64s [q0, q1, q2, q3]) rfl rfl rfl rfl rfl rfl rfl (RdW.blk0 (i := 0) rfl) rfl (i64s_one _) (by omega) (by omega) fun gq' cq' => ?_))
      refine AtD.pures (ob := True) true (by kernel_rfl) [25] (fuel := 1) (by kernel_rfl) rfl oK ?_
      refine AtD.fork1 26 (by kernel_rfl) (StepD.by0 [] rfl rfl rfl trivial (OpOk.one true [] [hB 2] rfl (by and_intros <;> first | simp [Value.oneCell', sv]; done | exact oK) ?_))
      refine AtD.done (by kernel_rfl) ?_
      refine At.keep [false, true, true, true] [true, true, true, true, true, true, true, true, true, true, true, true, true, true, true, true, true, true, true] rfl ?_
      refine At.run 100 true [] [] rfl oK ?_
      refine At.weak (ih (x0.length - (i + 1)) _ _ _ (by omega) ⟨i + 1, gq', cq', rfl, by omega, rfl, rfl, ?_⟩) ⟨rfl, rfl, rfl, some_int_eq (by omega), trivial⟩
      simp only [rowsT_snoc, List.flatMap_append, List.flatMap_cons, List.flatMap_nil, List.append_nil, ← hrow]
  · have : i = x0.length := by omega
    subst this
    refine At.run 100 true [false] [hB 0] rfl oK ?_
    exact At.weak (hk h0 d0) ⟨rfl, rfl, rfl, rfl, trivial⟩

theorem Tryz.rg13_S {Q : Value → Bx → List Seg → Prop} (w : World) (b2 b5 b6 n : Nat) {x0 x1 x2 x3 y0 y1 y2 z0 z1 z2 z3 z4 z5 v0 v1 : List Int} {G0 G1 G2 G3 G4 G5 G6 G7 G8 G9 G10 G11 G12 G13 G14 : Option Nat} {c : Nat → Nat} (h0 : Option Nat) (d0 : Nat) (m : y0.length ≤ 1024) (l5 : y1.length = y0.length) (l6 : y2.length = y0.length)
    (hk : ∀ (h1 : Option Nat) (d1 : Nat), At (triCtx Tryz.prog 48 Tryz.f48 w [] Q) ⟨0, [0, 1, 0, 1, 1, 1, 1, 1, 1, 1, 1, 1, 1, 1], []⟩ [] [(2, .pointer (some ⟨b2, 0, none⟩)), (5, .pointer (some ⟨b5, 0, none⟩)), (6, .pointer (some ⟨b6, 0, none⟩)), (16, .int .i64 0)] [(b6, 178, [sv G0 x0.length (c 0), sv G1 x1.length (c 1), sv G2 x2.length (c 2), sv G3 x3.length (c 3), sv G4 y0.length (c 4), sv G5 y1.length (c 5), sv G6 y2.length (c 6), sv G7 z0.length (c 7), sv G8 z1.length (c 8), sv G9 z2.length (c 9), sv G10 z3.length (c 10), sv G11 z4.length (c 11), sv G12 z5.length (c 12), sv G13 v0.length (c 13), sv G14 v1.length (c 14)]), (b5, 50, [sv h0 x0.length d0, sv h1 y0.length d1, sv none 0 0, sv none 0 0, .int .i64 n]), (b2, 50, [sv none 0 0, sv none 0 0, sv none 0 0, sv none 0 0, .int .i64 0])] [Seg.row none 109 2 0 0 [], Seg.row none 107 6 0 0 ((rowsT 6 0 [z0, z1, z2, z3, z4, z5]).flatMap i64s), Seg.row h1 105 3 y0.length d1 ((rowsT 3 y0.length [y0, y1, y2]).flatMap i64s), Seg.row h0 103 4 x0.length d0 ((rowsT 4 x0.length [x0, x1, x2, x3]).flatMap i64s), Seg.row G14 2 1 v1.length (c 14) (i64s v1), Seg.row G13 2 1 v0.length (c 13) (i64s v0), Seg.row G12 2 1 z5.length (c 12) (i64s z5), Seg.row G11 2 1 z4.length (c 11) (i64s z4), Seg.row G10 2 1 z3.length (c 10) (i64s z3), Seg.row G9 2 1 z2.length (c 9) (i64s z2), Seg.row G8 2 1 z1.length (c 8) (i64s z1), Seg.row G7 2 1 z0.length (c 7) (i64s z0), Seg.row G6 2 1 y2.length (c 6) (i64s y2), Seg.row G5 2 1 y1.length (c 5) (i64s y1), Seg.row G4 2 1 y0.length (c 4) (i64s y0), Seg.row G3 2 1 x3.length (c 3) (i64s x3), Seg.row G2 2 1 x2.length (c 2) (i64s x2), Seg.row G1 2 1 x1.length (c 1) (i64s x1), Seg.row G0 2 1 x0.length (c 0) (i64s x0)] ⟨w, kys [] []⟩) :
    At (triCtx Tryz.prog 48 Tryz.f48 w [] Q) ⟨0, [0, 1, 0, 1, 1, 1, 1, 1, 1, 1, 1, 1, 1], []⟩ [] [(2, .pointer (some ⟨b2, 0, none⟩)), (5, .pointer (some ⟨b5, 0, none⟩)), (6, .pointer (some ⟨b6, 0, none⟩)), (15, .int .i64 0)] [(b6, 178, [sv G0 x0.length (c 0), sv G1 x1.length (c 1), sv G2 x2.length (c 2), sv G3 x3.length (c 3), sv G4 y0.length (c 4), sv G5 y1.length (c 5), sv G6 y2.length (c 6), sv G7 z0.length (c 7), sv G8 z1.length (c 8), sv G9 z2.length (c 9), sv G10 z3.length (c 10), sv G11 z4.length (c 11), sv G12 z5.length (c 12), sv G13 v0.length (c 13), sv G14 v1.length (c 14)]), (b5, 50, [sv h0 x0.length d0, sv none 0 0, sv none 0 0, sv none 0 0, .int .i64 n]), (b2, 50, [sv none 0 0, sv none 0 0, sv none 0 0, sv none 0 0, .int .i64 0])] [Seg.row none 109 2 0 0 [], Seg.row none 107 6 0 0 [], Seg.row none 105 3 0 0 ((rowsT 3 0 [y0, y1, y2]).flatMap i64s), Seg.row h0 103 4 x0.length d0 ((rowsT 4 x0.length [x0, x1, x2, x3]).flatMap i64s), Seg.row G14 2 1 v1.length (c 14) (i64s v1), Seg.row G13 2 1 v0.length (c 13) (i64s v0), Seg.row G12 2 1 z5.length (c 12) (i64s z5), Seg.row G11 2 1 z4.length (c 11) (i64s z4), Seg.row G10 2 1 z3.length (c 10) (i64s z3), Seg.row G9 2 1 z2.length (c 9) (i64s z2), Seg.row G8 2 1 z1.length (c 8) (i64s z1), Seg.row G7 2 1 z0.length (c 7) (i64s z0), Seg.row G6 2 1 y2.length (c 6) (i64s y2), Seg.row G5 2 1 y1.length (c 5) (i64s y1), Seg.row G4 2 1 y0.length (c 4) (i64s y0), Seg.row G3 2 1 x3.length (c 3) (i64s x3), Seg.row G2 2 1 x2.length (c 2) (i64s x2), Seg.row G1 2 1 x1.length (c 1) (i64s x1), Seg.row G0 2 1 x0.length (c 0) (i64s x0)] ⟨w, kys [] []⟩ := by
  refine At.loop (n := y0.length) (env0 := [(2, .pointer (some ⟨b2, 0, none⟩)), (5, .pointer (some ⟨b5, 0, none⟩)), (6, .pointer (some ⟨b6, 0, none⟩)), (15, .int .i64 0)]) (fun mm env bx hp => ∃ (i : Nat) (gq : Option Nat) (cq : Nat), mm = y0.length - i ∧ i ≤ y0.length ∧ env = [(2, .pointer (some ⟨b2, 0, none⟩)), (5, .pointer (some ⟨b5, 0, none⟩)), (6, .pointer (some ⟨b6, 0, none⟩)), (15, .int .i64 i)] ∧
    bx = [(b6, 178, [sv G0 x0.length (c 0), sv G1 x1.length (c 1), sv G2 x2.length (c 2), sv G3 x3.length (c 3), sv G4 y0.length (c 4), sv G5 y1.length (c 5), sv G6 y2.length (c 6), sv G7 z0.length (c 7), sv G8 z1.length (c 8), sv G9 z2.length (c 9), sv G10 z3.length (c 10), sv G11 z4.length (c 11), sv G12 z5.length (c 12), sv G13 v0.length (c 13), sv G14 v1.length (c 14)]), (b5, 50, [sv h0 x0.length d0, sv gq i cq, sv none 0 0, sv none 0 0, .int .i64 n]), (b2, 50, [sv none 0 0, sv none 0 0, sv none 0 0, sv none 0 0, .int .i64 0])] ∧ hp = [Seg.row none 109 2 0 0 [], Seg.row none 107 6 0 0 [], Seg.row gq 105 3 i cq ((rowsT 3 i [y0, y1, y2]).flatMap i64s), Seg.row h0 103 4 x0.length d0 ((rowsT 4 x0.length [x0, x1, x2, x3]).flatMap i64s), Seg.row G14 2 1 v1.length (c 14) (i64s v1), Seg.row G13 2 1 v0.length (c 13) (i64s v0), Seg.row G12 2 1 z5.length (c 12) (i64s z5), Seg.row G11 2 1 z4.length (c 11) (i64s z4), Seg.row G10 2 1 z3.length (c 10) (i64s z3), Seg.row G9 2 1 z2.length (c 9) (i64s z2), Seg.row G8 2 1 z1.length (c 8) (i64s z1), Seg.row G7 2 1 z0.length (c 7) (i64s z0), Seg.row G6 2 1 y2.length (c 6) (i64s y2), Seg.row G5 2 1 y1.length (c 5) (i64s y1), Seg.row G4 2 1 y0.length (c 4) (i64s y0), Seg.row G3 2 1 x3.length (c 3) (i64s x3), Seg.row G2 2 1 x2.length (c 2) (i64s x2), Seg.row G1 2 1 x1.length (c 1) (i64s x1), Seg.row G0 2 1 x0.length (c 0) (i64s x0)]) rfl ⟨0, none, 0, rfl, by omega, rfl, rfl, rfl⟩ ⟨rfl, rfl, rfl, rfl, trivial⟩ ?_
  rintro mm env bx hp ⟨i, h1, d1, rfl, hi1, rfl, rfl, rfl⟩ ih
  by_cases hlt : i < y0.length
  · have hle : i < 1024 := by omega
    obtain ⟨q0, e0⟩ : ∃ q, y0[i]? = some q := ⟨_, List.getElem?_eq_getElem (by omega)⟩
    obtain ⟨q1, e1⟩ : ∃ q, y1[i]? = some q := ⟨_, List.getElem?_eq_getElem (by omega)⟩
    obtain ⟨q2, e2⟩ : ∃ q, y2[i]? = some q := ⟨_, List.getElem?_eq_getElem (by omega)⟩
    refine At.rowSome 14 rfl (by omega) (fun gg0 hg0 => ?_)
    subst hg0
    refine At.rowSome 13 rfl (by omega) (fun gg1 hg1 => ?_)
    subst hg1
    refine At.rowSome 12 rfl (by omega) (fun gg2 hg2 => ?_)
    subst hg2
    have r0 : ∀ {bx : Bx} {sa sb sc sd : Seg}, RdW ⟨w, kys [] []⟩ bx [sa, sb, sc, sd, Seg.row G14 2 1 v1.length (c 14) (i64s v1), Seg.row G13 2 1 v0.length (c 13) (i64s v0), Seg.row G12 2 1 z5.length (c 12) (i64s z5), Seg.row G11 2 1 z4.length (c 11) (i64s z4), Seg.row G10 2 1 z3.length (c 10) (i64s z3), Seg.row G9 2 1 z2.length (c 9) (i64s z2), Seg.row G8 2 1 z1.length (c 8) (i64s z1), Seg.row G7 2 1 z0.length (c 7) (i64s z0), Seg.row (some gg2) 2 1 y2.length (c 6) (i64s y2), Seg.row (some gg1) 2 1 y1.length (c 5) (i64s y1), Seg.row (some gg0) 2 1 y0.length (c 4) (i64s y0), Seg.row G3 2 1 x3.length (c 3) (i64s x3), Seg.row G2 2 1 x2.length (c 2) (i64s x2), Seg.row G1 2 1 x1.length (c 1) (i64s x1), Seg.row G0 2 1 x0.length (c 0) (i64s x0)] gg0 (0 + (i : Int).toNat * 1) [.int .i64 q0] := fun {bx sa sb sc sd} => RdW.row (j := 14) rfl (fun i' u hu => by
      match i', hu with
      | 0, hu => simp at hu; subst hu; rw [show 0 + (i : Int).toNat * 1 + 0 = i by omega]; exact i64s_get e0)
    have r1 : ∀ {bx : Bx} {sa sb sc sd : Seg}, RdW ⟨w, kys [] []⟩ bx [sa, sb, sc, sd, Seg.row G14 2 1 v1.length (c 14) (i64s v1), Seg.row G13 2 1 v0.length (c 13) (i64s v0), Seg.row G12 2 1 z5.length (c 12) (i64s z5), Seg.row G11 2 1 z4.length (c 11) (i64s z4), Seg.row G10 2 1 z3.length (c 10) (i64s z3), Seg.row G9 2 1 z2.length (c 9) (i64s z2), Seg.row G8 2 1 z1.length (c 8) (i64s z1), Seg.row G7 2 1 z0.length (c 7) (i64s z0), Seg.row (some gg2) 2 1 y2.length (c 6) (i64s y2), Seg.row (some gg1) 2 1 y1.length (c 5) (i64s y1), Seg.row (some gg0) 2 1 y0.length (c 4) (i64s y0), Seg.row G3 2 1 x3.length (c 3) (i64s x3), Seg.row G2 2 1 x2.length (c 2) (i64s x2), Seg.row G1 2 1 x1.length (c 1) (i64s x1), Seg.row G0 2 1 x0.length (c 0) (i64s x0)] gg1 (0 + (i : Int).toNat * 1) [.int .i64 q1] := fun {bx sa sb sc sd} => RdW.row (j := 13) rfl (fun i' u hu => by
      match i', hu with
      | 0, hu => simp at hu; subst hu; rw [show 0 + (i : Int).toNat * 1 + 0 = i by omega]; exact i64s_get e1)
    have r2 : ∀ {bx : Bx} {sa sb sc sd : Seg}, RdW ⟨w, kys [] []⟩ bx [sa, sb, sc, sd, Seg.row G14 2 1 v1.length (c 14) (i64s v1), Seg.row G13 2 1 v0.length (c 13) (i64s v0), Seg.row G12 2 1 z5.length (c 12) (i64s z5), Seg.row G11 2 1 z4.length (c 11) (i64s z4), Seg.row G10 2 1 z3.length (c 10) (i64s z3), Seg.row G9 2 1 z2.length (c 9) (i64s z2), Seg.row G8 2 1 z1.length (c 8) (i64s z1), Seg.row G7 2 1 z0.length (c 7) (i64s z0), Seg.row (some gg2) 2 1 y2.length (c 6) (i64s y2), Seg.row (some gg1) 2 1 y1.length (c 5) (i64s y1), Seg.row (some gg0) 2 1 y0.length (c 4) (i64s y0), Seg.row G3 2 1 x3.length (c 3) (i64s x3), Seg.row G2 2 1 x2.length (c 2) (i64s x2), Seg.row G1 2 1 x1.length (c 1) (i64s x1), Seg.row G0 2 1 x0.length (c 0) (i64s x0)] gg2 (0 + (i : Int).toNat * 1) [.int .i64 q2] := fun {bx sa sb sc sd} => RdW.row (j := 12) rfl (fun i' u hu => by
      match i', hu with
      | 0, hu => simp at hu; subst hu; rw [show 0 + (i : Int).toNat * 1 + 0 = i by omega]; exact i64s_get e2)
    have hrow : i64s [q0, q1, q2] = i64s (Eng.rowAt 3 [y0, y1, y2] i) := by simp [Eng.rowAt, nthI, List.range_succ, e0, e1, e2]
    refine At.run 100 true [true] [hB 0] rfl oK ?_
    refine At.draw 22 rfl rfl rfl rfl ?_
    refine AtD.pures (ob := True) true (by kernel_rfl) [0] (fuel := 21) (by kernel_rfl) rfl oK ?_
    refine AtD.late 2 16 1 18 3 true [] [hB 0, hR [.int .i64 q0], hB 0, hR [.int .i64 q1], hB 0, hR [.int .i64 q2]] [hB 1] ⟨by kernel_rfl, by kernel_rfl, by kernel_rfl, rfl, by kernel_rfl, by kernel_rfl, rfl, rfl, by kernel_rfl⟩ rfl rfl rfl (by and_intros <;> first | exact r0 | exact r1 | exact r2 | exact oK) rfl rfl oK ?_ ?_
    · refine AtD.fork1 18 (by kernel_rfl) (StepD.by [] rfl rfl rfl rfl trivial (OpOk.buildSlice rfl rfl rfl rfl rfl rfl rfl (fun bb hbb => ?_)))
      refine AtD.fork1 19 (by kernel_rfl) (StepD.by [] rfl rfl rfl rfl trivial (OpOk.append 2 3 24 (i64s [q0, q1, q2]) rfl rfl rfl rfl rfl rfl rfl (RdW.blk0 (i := 0) rfl) rfl (i64s_one _) (by omega) (by omega) fun gq' cq' => ?_))
      refine AtD.pures (ob := True) true (by kernel_rfl) [20] (fuel := 1) (by kernel_rfl) rfl oK ?_
      refine AtD.fork1 21 (by kernel_rfl) (StepD.by0 [] rfl rfl rfl trivial (OpOk.one true [] [hB 2] rfl (by and_intros <;> first | simp [Value.oneCell', sv]; done | exact oK) ?_))
      refine AtD.done (by kernel_rfl) ?_
      refine At.keep [false, true, true, true] [true, true, true, true, true, true, true, true, true, true, true, true, true, true, true, true, true, true, true] rfl ?_
      refine At.run 100 true [] [] rfl oK ?_
      refine At.weak (ih (y0.length - (i + 1)) _ _ _ (by omega) ⟨i + 1, gq', cq', rfl, by omega, rfl, rfl, ?_⟩) ⟨rfl, rfl, rfl, some_int_eq (by omega), trivial⟩
      simp only [rowsT_snoc, List.flatMap_append, List.flatMap_cons, List.flatMap_nil, List.append_nil, ← hrow]
    · refine StepD.by [] rfl rfl rfl rfl trivial (OpOk.buildSlice rfl rfl rfl rfl rfl rfl rfl (fun bb hbb => ?_))
      refine AtD.fork1 1 (by kernel_rfl) (StepD.by [] rfl rfl rfl rfl trivial (OpOk.one true [] [hB 2] rfl oK ?_))
      refine AtD.fork1 19 (by kernel_rfl) (StepD.by [] rfl rfl rfl rfl trivial (OpOk.append 2 3 24 (i64s [q0, q1, q2]) rfl rfl rfl rfl rfl rfl rfl (RdW.blk0 (i := 0) rfl) rfl (i64s_one _) (by omega) (by omega) fun gq' cq' => ?_))
      refine AtD.pures (ob := True) true (by kernel_rfl) [20] (fuel := 1) (by kernel_rfl) rfl oK ?_
      refine AtD.fork1 21 (by kernel_rfl) (StepD.by0 [] rfl rfl rfl trivial (OpOk.one true [] [hB 2] rfl (by and_intros <;> first | simp [Value.oneCell', sv]; done | exact oK) ?_))
      refine AtD.done (by kernel_rfl) ?_
      refine At.keep [false, true, true, true] [true, true, true, true, true, true, true, true, true, true, true, true, true, true, true, true, true, true, true] rfl ?_
      refine At.run 100 true [] [] rfl oK ?_
      refine At.weak (ih (y0.length - (i + 1)) _ _ _ (by omega) ⟨i + 1, gq', cq', rfl, by omega, rfl, rfl, ?_⟩) ⟨rfl, rfl, rfl, some_int_eq (by omega), trivial⟩
      simp only [rowsT_snoc, List.flatMap_append, List.flatMap_cons, List.flatMap_nil, List.append_nil, ← hrow]
  · have : i = y0.length := by omega
    subst this
    refine At.run 100 true [false] [hB 0] rfl oK ?_
    exact At.weak (hk h1 d1) ⟨rfl, rfl, rfl, rfl, trivial⟩

theorem Tryz.rg13_O {Q : Value → Bx → List Seg → Prop} (w : World) (b2 b5 b6 n : Nat) {x0 x1 x2 x3 y0 y1 y2 z0 z1 z2 z3 z4 z5 v0 v1 : List Int} {G0 G1 G2 G3 G4 G5 G6 G7 G8 G9 G10 G11 G12 G13 G14 : Option Nat} {c : Nat → Nat} (h0 : Option Nat) (d0 : Nat) (h1 : Option Nat) (d1 : Nat) (m : z0.length ≤ 1024) (l8 : z1.length = z0.length) (l9 : z2.length = z0.length) (l10 : z3.length = z0.length) (l11 : z4.length = z0.length) (l12 : z5.length = z0.length)
    (hk : ∀ (h2 : Option Nat) (d2 : Nat), At (triCtx Tryz.prog 48 Tryz.f48 w [] Q) ⟨0, [0, 1, 0, 1, 1, 1, 1, 1, 1, 1, 1, 1, 1, 1, 1], []⟩ [] [(2, .pointer (some ⟨b2, 0, none⟩)), (5, .pointer (some ⟨b5, 0, none⟩)), (6, .pointer (some ⟨b6, 0, none⟩)), (17, .int .i64 0)] [(b6, 178, [sv G0 x0.length (c 0), sv G1 x1.length (c 1), sv G2 x2.length (c 2), sv G3 x3.length (c 3), sv G4 y0.length (c 4), sv G5 y1.length (c 5), sv G6 y2.length (c 6), sv G7 z0.length (c 7), sv G8 z1.length (c 8), sv G9 z2.length (c 9), sv G10 z3.length (c 10), sv G11 z4.length (c 11), sv G12 z5.length (c 12), sv G13 v0.length (c 13), sv G14 v1.length (c 14)]), (b5, 50, [sv h0 x0.length d0, sv h1 y0.length d1, sv h2 z0.length d2, sv none 0 0, .int .i64 n]), (b2, 50, [sv none 0 0, sv none 0 0, sv none 0 0, sv none 0 0, .int .i64 0])] [Seg.row none 109 2 0 0 ((rowsT 2 0 [v0, v1]).flatMap i64s), Seg.row h2 107 6 z0.length d2 ((rowsT 6 z0.length [z0, z1, z2, z3, z4, z5]).flatMap i64s), Seg.row h1 105 3 y0.length d1 ((rowsT 3 y0.length [y0, y1, y2]).flatMap i64s), Seg.row h0 103 4 x0.length d0 ((rowsT 4 x0.length [x0, x1, x2, x3]).flatMap i64s), Seg.row G14 2 1 v1.length (c 14) (i64s v1), Seg.row G13 2 1 v0.length (c 13) (i64s v0), Seg.row G12 2 1 z5.length (c 12) (i64s z5), Seg.row G11 2 1 z4.length (c 11) (i64s z4), Seg.row G10 2 1 z3.length (c 10) (i64s z3), Seg.row G9 2 1 z2.length (c 9) (i64s z2), Seg.row G8 2 1 z1.length (c 8) (i64s z1), Seg.row G7 2 1 z0.length (c 7) (i64s z0), Seg.row G6 2 1 y2.length (c 6) (i64s y2), Seg.row G5 2 1 y1.length (c 5) (i64s y1), Seg.row G4 2 1 y0.length (c 4) (i64s y0), Seg.row G3 2 1 x3.length (c 3) (i64s x3), Seg.row G2 2 1 x2.length (c 2) (i64s x2), Seg.row G1 2 1 x1.length (c 1) (i64s x1), Seg.row G0 2 1 x0.length (c 0) (i64s x0)] ⟨w, kys [] []⟩) :
    At (triCtx Tryz.prog 48 Tryz.f48 w [] Q) ⟨0, [0, 1, 0, 1, 1, 1, 1, 1, 1, 1, 1, 1, 1, 1], []⟩ [] [(2, .pointer (some ⟨b2, 0, none⟩)), (5, .pointer (some ⟨b5, 0, none⟩)), (6, .pointer (some ⟨b6, 0, none⟩)), (16, .int .i64 0)] [(b6, 178, [sv G0 x0.length (c 0), sv G1 x1.length (c 1), sv G2 x2.length (c 2), sv G3 x3.length (c 3), sv G4 y0.length (c 4), sv G5 y1.length (c 5), sv G6 y2.length (c 6), sv G7 z0.length (c 7), sv G8 z1.length (c 8), sv G9 z2.length (c 9), sv G10 z3.length (c 10), sv G11 z4.length (c 11), sv G12 z5.length (c 12), sv G13 v0.length (c 13), sv G14 v1.length (c 14)]), (b5, 50, [sv h0 x0.length d0, sv h1 y0.length d1, sv none 0 0, sv none 0 0, .int .i64 n]), (b2, 50, [sv none 0 0, sv none 0 0, sv none 0 0, sv none 0 0, .int .i64 0])] [Seg.row none 109 2 0 0 [], Seg.row none 107 6 0 0 ((rowsT 6 0 [z0, z1, z2, z3, z4, z5]).flatMap i64s), Seg.row h1 105 3 y0.length d1 ((rowsT 3 y0.length [y0, y1, y2]).flatMap i64s), Seg.row h0 103 4 x0.length d0 ((rowsT 4 x0.length [x0, x1, x2, x3]).flatMap i64s), Seg.row G14 2 1 v1.length (c 14) (i64s v1), Seg.row G13 2 1 v0.length (c 13) (i64s v0), Seg.row G12 2 1 z5.length (c 12) (i64s z5), Seg.row G11 2 1 z4.length (c 11) (i64s z4), Seg.row G10 2 1 z3.length (c 10) (i64s z3), Seg.row G9 2 1 z2.length (c 9) (i64s z2), Seg.row G8 2 1 z1.length (c 8) (i64s z1), Seg.row G7 2 1 z0.length (c 7) (i64s z0), Seg.row G6 2 1 y2.length (c 6) (i64s y2), Seg.row G5 2 1 y1.length (c 5) (i64s y1), Seg.row G4 2 1 y0.length (c 4) (i64s y0), Seg.row G3 2 1 x3.length (c 3) (i64s x3), Seg.row G2 2 1 x2.length (c 2) (i64s x2), Seg.row G1 2 1 x1.length (c 1) (i64s x1), Seg.row G0 2 1 x0.length (c 0) (i64s x0)] ⟨w, kys [] []⟩ := by
  refine At.loop (n := z0.length) (env0 := [(2, .pointer (some ⟨b2, 0, none⟩)), (5, .pointer (some ⟨b5, 0, none⟩)), (6, .pointer (some ⟨b6, 0, none⟩)), (16, .int .i64 0)]) (fun mm env bx hp => ∃ (i : Nat) (gq : Option Nat) (cq : Nat), mm = z0.length - i ∧ i ≤ z0.length ∧ env = [(2, .pointer (some ⟨b2, 0, none⟩)), (5, .pointer (some ⟨b5, 0, none⟩)), (6, .pointer (some ⟨b6, 0, none⟩)), (16, .int .i64 i)] ∧
    bx = [(b6, 178, [sv G0 x0.length (c 0), sv G1 x1.length (c 1), sv G2 x2.length (c 2), sv G3 x3.length (c 3), sv G4 y0.length (c 4), sv G5 y1.length (c 5), sv G6 y2.length (c 6), sv G7 z0.length (c 7), sv G8 z1.length (c 8), sv G9 z2.length (c 9), sv G10 z3.length (c 10), sv G11 z4.length (c 11), sv G12 z5.length (c 12), sv G13 v0.length (c 13), sv G14 v1.length (c 14)]), (b5, 50, [sv h0 x0.length d0, sv h1 y0.length d1, sv gq i cq, sv none 0 0, .int .i64 n]), (b2, 50, [sv none 0 0, sv none 0 0, sv none 0 0, sv none 0 0, .int .i64 0])] ∧ hp = [Seg.row none 109 2 0 0 [], Seg.row gq 107 6 i cq ((rowsT 6 i [z0, z1, z2, z3, z4, z5]).flatMap i64s), Seg.row h1 105 3 y0.length d1 ((rowsT 3 y0.length [y0, y1, y2]).flatMap i64s), Seg.row h0 103 4 x0.length d0 ((rowsT 4 x0.length [x0, x1, x2, x3]).flatMap i64s), Seg.row G14 2 1 v1.length (c 14) (i64s v1), Seg.row G13 2 1 v0.length (c 13) (i64s v0), Seg.row G12 2 1 z5.length (c 12) (i64s z5), Seg.row G11 2 1 z4.length (c 11) (i64s z4), Seg.row G10 2 1 z3.length (c 10) (i64s z3), Seg.row G9 2 1 z2.length (c 9) (i64s z2), Seg.row G8 2 1 z1.length (c 8) (i64s z1), Seg.row G7 2 1 z0.length (c 7) (i64s z0), Seg.row G6 2 1 y2.length (c 6) (i64s y2), Seg.row G5 2 1 y1.length (c 5) (i64s y1), Seg.row G4 2 1 y0.length (c 4) (i64s y0), Seg.row G3 2 1 x3.length (c 3) (i64s x3), Seg.row G2 2 1 x2.length (c 2) (i64s x2), Seg.row G1 2 1 x1.length (c 1) (i64s x1), Seg.row G0 2 1 x0.length (c 0) (i64s x0)]) rfl ⟨0, none, 0, rfl, by omega, rfl, rfl, rfl⟩ ⟨rfl, rfl, rfl, rfl, trivial⟩ ?_
  rintro mm env bx hp ⟨i, h2, d2, rfl, hi2, rfl, rfl, rfl⟩ ih
  by_cases hlt : i < z0.length
  · have hle : i < 1024 := by omega
    obtain ⟨q0, e0⟩ : ∃ q, z0[i]? = some q := ⟨_, List.getElem?_eq_getElem (by omega)⟩
    obtain ⟨q1, e1⟩ : ∃ q, z1[i]? = some q := ⟨_, List.getElem?_eq_getElem (by omega)⟩
    obtain ⟨q2, e2⟩ : ∃ q, z2[i]? = some q := ⟨_, List.getElem?_eq_getElem (by omega)⟩
    obtain ⟨q3, e3⟩ : ∃ q, z3[i]? = some q := ⟨_, List.getElem?_eq_getElem (by omega)⟩
    obtain ⟨q4, e4⟩ : ∃ q, z4[i]? = some q := ⟨_, List.getElem?_eq_getElem (by omega)⟩
    obtain ⟨q5, e5⟩ : ∃ q, z5[i]? = some q := ⟨_, List.getElem?_eq_getElem (by omega)⟩
    refine At.rowSome 11 rfl (by omega) (fun gg0 hg0 => ?_)
    subst hg0
    refine At.rowSome 10 rfl (by omega) (fun gg1 hg1 => ?_)
    subst hg1
    refine At.rowSome 9 rfl (by omega) (fun gg2 hg2 => ?_)
    subst hg2
    refine At.rowSome 8 rfl (by omega) (fun gg3 hg3 => ?_)
    subst hg3
    refine At.rowSome 7 rfl (by omega) (fun gg4 hg4 => ?_)
    subst hg4
    refine At.rowSome 6 rfl (by omega) (fun gg5 hg5 => ?_)
    subst hg5
    have r0 : ∀ {bx : Bx} {sa sb sc sd : Seg}, RdW ⟨w, kys [] []⟩ bx [sa, sb, sc, sd, Seg.row G14 2 1 v1.length (c 14) (i64s v1), Seg.row G13 2 1 v0.length (c 13) (i64s v0), Seg.row (some gg5) 2 1 z5.length (c 12) (i64s z5), Seg.row (some gg4) 2 1 z4.length (c 11) (i64s z4), Seg.row (some gg3) 2 1 z3.length (c 10) (i64s z3), Seg.row (some gg2) 2 1 z2.length (c 9) (i64s z2), Seg.row (some gg1) 2 1 z1.length (c 8) (i64s z1), Seg.row (some gg0) 2 1 z0.length (c 7) (i64s z0), Seg.row G6 2 1 y2.length (c 6) (i64s y2), Seg.row G5 2 1 y1.length (c 5) (i64s y1), Seg.row G4 2 1 y0.length (c 4) (i64s y0), Seg.row G3 2 1 x3.length (c 3) (i64s x3), Seg.row G2 2 1 x2.length (c 2) (i64s x2), Seg.row G1 2 1 x1.length (c 1) (i64s x1), Seg.row G0 2 1 x0.length (c 0) (i64s x0)] gg0 (0 + (i : Int).toNat * 1) [.int .i64 q0] := fun {bx sa sb sc sd} => RdW.row (j := 11) rfl (fun i' u hu => by
      match i', hu with
      | 0, hu => simp at hu; subst hu; rw [show 0 + (i : Int).toNat * 1 + 0 = i by omega]; exact i64s_get e0)
    have r1 : ∀ {bx : Bx} {sa sb sc sd : Seg}, RdW ⟨w, kys [] []⟩ bx [sa, sb, sc, sd, Seg.row G14 2 1 v1.length (c 14) (i64s v1), Seg.row G13 2 1 v0.length (c 13) (i64s v0), Seg.row (some gg5) 2 1 z5.length (c 12) (i64s z5), Seg.row (some gg4) 2 1 z4.length (c 11) (i64s z4), Seg.row (some gg3) 2 1 z3.length (c 10) (i64s z3), Seg.row (some gg2) 2 1 z2.length (c 9) (i64s z2), Seg.row (some gg1) 2 1 z1.length (c 8) (i64s z1), Seg.row (some gg0) 2 1 z0.length (c 7) (i64s z0), Seg.row G6 2 1 y2.length (c 6) (i64s y2), Seg.row G5 2 1 y1.length (c 5) (i64s y1), Seg.row G4 2 1 y0.length (c 4) (i64s y0), Seg.row G3 2 1 x3.length (c 3) (i64s x3), Seg.row G2 2 1 x2.length (c 2) (i64s x2), Seg.row G1 2 1 x1.length (c 1) (i64s x1), Seg.row G0 2 1 x0.length (c 0) (i64s x0)] gg1 (0 + (i : Int).toNat * 1) [.int .i64 q1] := fun {bx sa sb sc sd} => RdW.row (j := 10) rfl (fun i' u hu => by
      match i', hu with
      | 0, hu => simp at hu; subst hu; rw [show 0 + (i : Int).toNat * 1 + 0 = i by omega]; exact i64s_get e1)
    have r2 : ∀ {bx : Bx} {sa sb sc sd : Seg}, RdW ⟨w, kys [] []⟩ bx [sa, sb, sc, sd, Seg.row G14 2 1 v1.length (c 14) (i64s v1), Seg.row G13 2 1 v0.length (c 13) (i64s v0), Seg.row (some gg5) 2 1 z5.length (c 12) (i64s z5), Seg.row (some gg4) 2 1 z4.length (c 11) (i64s z4), Seg.row (some gg3) 2 1 z3.length (c 10) (i64s z3), Seg.row (some gg2) 2 1 z2.length (c 9) (i64s z2), Seg.row (some gg1) 2 1 z1.length (c 8) (i64s z1), Seg.row (some gg0) 2 1 z0.length (c 7) (i64s z0), Seg.row G6 2 1 y2.length (c 6) (i64s y2), Seg.row G5 2 1 y1.length (c 5) (i64s y1), Seg.row G4 2 1 y0.length (c 4) (i64s y0), Seg.row G3 2 1 x3.length (c 3) (i64s x3), Seg.row G2 2 1 x2.length (c 2) (i64s x2), Seg.row G1 2 1 x1.length (c 1) (i64s x1), Seg.row G0 2 1 x0.length (c 0) (i64s x0)] gg2 (0 + (i : Int).toNat * 1) [.int .i64 q2] := fun {bx sa sb sc sd} => RdW.row (j := 9) rfl (fun i' u hu => by
      match i', hu with
      | 0, hu => simp at hu; subst hu; rw [show 0 + (i : Int).toNat * 1 + 0 = i by omega]; exact i64s_get e2)
    have r3 : ∀ {bx : Bx} {sa sb sc sd : Seg}, RdW ⟨w, kys [] []⟩ bx [sa, sb, sc, sd, Seg.row G14 2 1 v1.length (c 14) (i64s v1), Seg.row G13 2 1 v0.length (c 13) (i64s v0), Seg.row (some gg5) 2 1 z5.length (c 12) (i64s z5), Seg.row (some gg4) 2 1 z4.length (c 11) (i64s z4), Seg.row (some gg3) 2 1 z3.length (c 10) (i64s z3), Seg.row (some gg2) 2 1 z2.length (c 9) (i64s z2), Seg.row (some gg1) 2 1 z1.length (c 8) (i64s z1), Seg.row (some gg0) 2 1 z0.length (c 7) (i64s z0), Seg.row G6 2 1 y2.length (c 6) (i64s y2), Seg.row G5 2 1 y1.length (c 5) (i64s y1), Seg.row G4 2 1 y0.length (c 4) (i64s y0), Seg.row G3 2 1 x3.length (c 3) (i64s x3), Seg.row G2 2 1 x2.length (c 2) (i64s x2), Seg.row G1 2 1 x1.length (c 1) (i64s x1), Seg.row G0 2 1 x0.length (c 0) (i64s x0)] gg3 (0 + (i : Int).toNat * 1) [.int .i64 q3] := fun {bx sa sb sc sd} => RdW.row (j := 8) rfl (fun i' u hu => by
      match i', hu with
      | 0, hu => simp at hu; subst hu; rw [show 0 + (i : Int).toNat * 1 + 0 = i by omega]; exact i64s_get e3)
    have r4 : ∀ {bx : Bx} {sa sb sc sd : Seg}, RdW ⟨w, kys [] []⟩ bx [sa, sb, sc, sd, Seg.row G14 2 1 v1.length (c 14) (i64s v1), Seg.row G13 2 1 v0.length (c 13) (i64s v0), Seg.row (some gg5) 2 1 z5.length (c 12) (i64s z5), Seg.row (some gg4) 2 1 z4.length (c 11) (i64s z4), Seg.row (some gg3) 2 1 z3.length (c 10) (i64s z3), Seg.row (some gg2) 2 1 z2.length (c 9) (i64s z2), Seg.row (some gg1) 2 1 z1.length (c 8) (i64s z1), Seg.row (some gg0) 2 1 z0.length (c 7) (i64s z0), Seg.row G6 2 1 y2.length (c 6) (i64s y2), Seg.row G5 2 1 y1.length (c 5) (i64s y1), Seg.row G4 2 1 y0.length (c 4) (i64s y0), Seg.row G3 2 1 x3.length (c 3) (i64s x3), Seg.row G2 2 1 x2.length (c 2) (i64s x2), Seg.row G1 2 1 x1.length (c 1) (i64s x1), Seg.row G0 2 1 x0.length (c 0) (i64s x0)] gg4 (0 + (i : Int).toNat * 1) [.int .i64 q4] := fun {bx sa sb sc sd} => RdW.row (j := 7) rfl (fun i' u hu => by
      match i', hu with
      | 0, hu => simp at hu; subst hu; rw [show 0 + (i : Int).toNat * 1 + 0 = i by omega]; exact i64s_get e4)
    have r5 : ∀ {bx : Bx} {sa sb sc sd : Seg}, RdW ⟨w, kys [] []⟩ bx [sa, sb, sc, sd, Seg.row G14 2 1 v1.length (c 14) (i64s v1), Seg.row G13 2 1 v0.length (c 13) (i64s v0), Seg.row (some gg5) 2 1 z5.length (c 12) (i64s z5), Seg.row (some gg4) 2 1 z4.length (c 11) (i64s z4), Seg.row (some gg3) 2 1 z3.length (c 10) (i64s z3), Seg.row (some gg2) 2 1 z2.length (c 9) (i64s z2), Seg.row (some gg1) 2 1 z1.length (c 8) (i64s z1), Seg.row (some gg0) 2 1 z0.length (c 7) (i64s z0), Seg.row G6 2 1 y2.length (c 6) (i64s y2), Seg.row G5 2 1 y1.length (c 5) (i64s y1), Seg.row G4 2 1 y0.length (c 4) (i64s y0), Seg.row G3 2 1 x3.length (c 3) (i64s x3), Seg.row G2 2 1 x2.length (c 2) (i64s x2), Seg.row G1 2 1 x1.length (c 1) (i64s x1), Seg.row G0 2 1 x0.length (c 0) (i64s x0)] gg5 (0 + (i : Int).toNat * 1) [.int .i64 q5] := fun {bx sa sb sc sd} => RdW.row (j := 6) rfl (fun i' u hu => by
      match i', hu with
      | 0, hu => simp at hu; subst hu; rw [show 0 + (i : Int).toNat * 1 + 0 = i by omega]; exact i64s_get e5)
    have hrow : i64s [q0, q1, q2, q3, q4, q5] = i64s (Eng.rowAt 6 [z0, z1, z2, z3, z4, z5] i) := by simp [Eng.rowAt, nthI, List.range_succ, e0, e1, e2, e3, e4, e5]
    refine At.run 100 true [true] [hB 0] rfl oK ?_
    refine At.draw 37 rfl rfl rfl rfl ?_
    refine AtD.pures (ob := True) true (by kernel_rfl) [0] (fuel := 36) (by kernel_rfl) rfl oK ?_
    refine AtD.late 2 31 1 33 3 true [] [hB 0, hR [.int .i64 q0], hB 0, hR [.int .i64 q1], hB 0, hR [.int .i64 q2], hB 0, hR [.int .i64 q3], hB 0, hR [.int .i64 q4], hB 0, hR [.int .i64 q5]] [hB 1] ⟨by kernel_rfl, by kernel_rfl, by kernel_rfl, rfl, by kernel_rfl, by kernel_rfl, rfl, rfl, by kernel_rfl⟩ rfl rfl rfl (by and_intros <;> first | exact r0 | exact r1 | exact r2 | exact r3 | exact r4 | exact r5 | exact oK) rfl rfl oK ?_ ?_
    · refine AtD.fork1 33 (by kernel_rfl) (StepD.by [] rfl rfl rfl rfl trivial (OpOk.buildSlice rfl rfl rfl rfl rfl rfl rfl (fun bb hbb => ?_)))
      refine AtD.fork1 34 (by kernel_rfl) (StepD.by [] rfl rfl rfl rfl trivial (OpOk.append 1 6 48 (i64s [q0, q1, q2, q3, q4, q5]) rfl rfl rfl rfl rfl rfl rfl (RdW.blk0 (i := 0) rfl) rfl (i64s_one _) (by omega) (by omega) fun gq' cq' => ?_))
      refine AtD.pures (ob := True) true (by kernel_rfl) [35] (fuel := 1) (by kernel_rfl) rfl oK ?_
      refine AtD.fork1 36 (by kernel_rfl) (StepD.by0 [] rfl rfl rfl trivial (OpOk.one true [] [hB 2] rfl (by and_intros <;> first | simp [Value.oneCell', sv]; done | exact oK) ?_))
      refine AtD.done (by kernel_rfl) ?_
      refine At.keep [false, true, true, true] [true, true, true, true, true, true, true, true, true, true, true, true, true, true, true, true, true, true, true] rfl ?_
      refine At.run 100 true [] [] rfl oK ?_
      refine At.weak (ih (z0.length - (i + 1)) _ _ _ (by omega) ⟨i + 1, gq', cq', rfl, by omega, rfl, rfl, ?_⟩) ⟨rfl, rfl, rfl, some_int_eq (by omega), trivial⟩
      simp only [rowsT_snoc, List.flatMap_append, List.flatMap_cons, List.flatMap_nil, List.append_nil, ← hrow]
    · refine StepD.by [] rfl rfl rfl rfl trivial (OpOk.buildSlice rfl rfl rfl rfl rfl rfl rfl (fun bb hbb => ?_))
      refine AtD.fork1 1 (by kernel_rfl) (StepD.by [] rfl rfl rfl rfl trivial (OpOk.one true [] [hB 2] rfl oK ?_))
      refine AtD.fork1 34 (by kernel_rfl) (StepD.by [] rfl rfl rfl rfl trivial (OpOk.append 1 6 48 (i64s [q0, q1, q2, q3, q4, q5]) rfl rfl rfl rfl rfl rfl rfl (RdW.blk0 (i := 0) rfl) rfl (i64s_one _) (by omega) (by omega) fun gq' cq' => ?_))
      refine AtD.pures (ob := True) true (by kernel_rfl) [35] (fuel := 1) (by kernel_rfl) rfl oK ?_
      refine AtD.fork1 36 (by kernel_rfl) (StepD.by0 [] rfl rfl rfl trivial (OpOk.one true [] [hB 2] rfl (by and_intros <;> first | simp [Value.oneCell', sv]; done | exact oK) ?_))
      refine AtD.done (by kernel_rfl) ?_
      refine At.keep [false, true, true, true] [true, true, true, true, true, true, true, true, true, true, true, true, true, true, true, true, true, true, true] rfl ?_
      refine At.run 100 true [] [] rfl oK ?_
      refine At.weak (ih (z0.length - (i + 1)) _ _ _ (by omega) ⟨i + 1, gq', cq', rfl, by omega, rfl, rfl, ?_⟩) ⟨rfl, rfl, rfl, some_int_eq (by omega), trivial⟩
      simp only [rowsT_snoc, List.flatMap_append, List.flatMap_cons, List.flatMap_nil, List.append_nil, ← hrow]
  · have : i = z0.length := by omega
    subst this
    refine At.run 100 true [false] [hB 0] rfl oK ?_
    exact At.weak (hk h2 d2) ⟨rfl, rfl, rfl, rfl, trivial⟩

theorem Tryz.rg13_R {Q : Value → Bx → List Seg → Prop} (w : World) (b2 b5 b6 n : Nat) {x0 x1 x2 x3 y0 y1 y2 z0 z1 z2 z3 z4 z5 v0 v1 : List Int} {G0 G1 G2 G3 G4 G5 G6 G7 G8 G9 G10 G11 G12 G13 G14 : Option Nat} {c : Nat → Nat} (h0 : Option Nat) (d0 : Nat) (h1 : Option Nat) (d1 : Nat) (h2 : Option Nat) (d2 : Nat) (m : v0.length ≤ 1024) (l14 : v1.length = v0.length)
    (hk : ∀ (h3 : Option Nat) (d3 : Nat), At (triCtx Tryz.prog 48 Tryz.f48 w [] Q) ⟨3, [0, 0, 1, 1, 1, 1, 1, 1, 1, 1, 1, 1, 1, 1, 1], [0, 1, 2]⟩ [] [(2, .pointer (some ⟨b2, 0, none⟩)), (5, .pointer (some ⟨b5, 0, none⟩)), (6, .pointer (some ⟨b6, 0, none⟩))] [(b6, 178, [sv G0 x0.length (c 0), sv G1 x1.length (c 1), sv G2 x2.length (c 2), sv G3 x3.length (c 3), sv G4 y0.length (c 4), sv G5 y1.length (c 5), sv G6 y2.length (c 6), sv G7 z0.length (c 7), sv G8 z1.length (c 8), sv G9 z2.length (c 9), sv G10 z3.length (c 10), sv G11 z4.length (c 11), sv G12 z5.length (c 12), sv G13 v0.length (c 13), sv G14 v1.length (c 14)]), (b5, 50, [sv h0 x0.length d0, sv h1 y0.length d1, sv h2 z0.length d2, sv h3 v0.length d3, .int .i64 n]), (b2, 50, [sv none 0 0, sv none 0 0, sv none 0 0, sv none 0 0, .int .i64 0])] [Seg.row h3 109 2 v0.length d3 ((rowsT 2 v0.length [v0, v1]).flatMap i64s), Seg.row h2 107 6 z0.length d2 ((rowsT 6 z0.length [z0, z1, z2, z3, z4, z5]).flatMap i64s), Seg.row h1 105 3 y0.length d1 ((rowsT 3 y0.length [y0, y1, y2]).flatMap i64s), Seg.row h0 103 4 x0.length d0 ((rowsT 4 x0.length [x0, x1, x2, x3]).flatMap i64s), Seg.row G14 2 1 v1.length (c 14) (i64s v1), Seg.row G13 2 1 v0.length (c 13) (i64s v0), Seg.row G12 2 1 z5.length (c 12) (i64s z5), Seg.row G11 2 1 z4.length (c 11) (i64s z4), Seg.row G10 2 1 z3.length (c 10) (i64s z3), Seg.row G9 2 1 z2.length (c 9) (i64s z2), Seg.row G8 2 1 z1.length (c 8) (i64s z1), Seg.row G7 2 1 z0.length (c 7) (i64s z0), Seg.row G6 2 1 y2.length (c 6) (i64s y2), Seg.row G5 2 1 y1.length (c 5) (i64s y1), Seg.row G4 2 1 y0.length (c 4) (i64s y0), Seg.row G3 2 1 x3.length (c 3) (i64s x3), Seg.row G2 2 1 x2.length (c 2) (i64s x2), Seg.row G1 2 1 x1.length (c 1) (i64s x1), Seg.row G0 2 1 x0.length (c 0) (i64s x0)] ⟨w, kys [] []⟩) :
    At (triCtx Tryz.prog 48 Tryz.f48 w [] Q) ⟨0, [0, 1, 0, 1, 1, 1, 1, 1, 1, 1, 1, 1, 1, 1, 1], []⟩ [] [(2, .pointer (some ⟨b2, 0, none⟩)), (5, .pointer (some ⟨b5, 0, none⟩)), (6, .pointer (some ⟨b6, 0, none⟩)), (17, .int .i64 0)] [(b6, 178, [sv G0 x0.length (c 0), sv G1 x1.length (c 1), sv G2 x2.length (c 2), sv G3 x3.length (c 3), sv G4 y0.length (c 4), sv G5 y1.length (c 5), sv G6 y2.length (c 6), sv G7 z0.length (c 7), sv G8 z1.length (c 8), sv G9 z2.length (c 9), sv G10 z3.length (c 10), sv G11 z4.length (c 11), sv G12 z5.length (c 12), sv G13 v0.length (c 13), sv G14 v1.length (c 14)]), (b5, 50, [sv h0 x0.length d0, sv h1 y0.length d1, sv h2 z0.length d2, sv none 0 0, .int .i64 n]), (b2, 50, [sv none 0 0, sv none 0 0, sv none 0 0, sv none 0 0, .int .i64 0])] [Seg.row none 109 2 0 0 ((rowsT 2 0 [v0, v1]).flatMap i64s), Seg.row h2 107 6 z0.length d2 ((rowsT 6 z0.length [z0, z1, z2, z3, z4, z5]).flatMap i64s), Seg.row h1 105 3 y0.length d1 ((rowsT 3 y0.length [y0, y1, y2]).flatMap i64s), Seg.row h0 103 4 x0.length d0 ((rowsT 4 x0.length [x0, x1, x2, x3]).flatMap i64s), Seg.row G14 2 1 v1.length (c 14) (i64s v1), Seg.row G13 2 1 v0.length (c 13) (i64s v0), Seg.row G12 2 1 z5.length (c 12) (i64s z5), Seg.row G11 2 1 z4.length (c 11) (i64s z4), Seg.row G10 2 1 z3.length (c 10) (i64s z3), Seg.row G9 2 1 z2.length (c 9) (i64s z2), Seg.row G8 2 1 z1.length (c 8) (i64s z1), Seg.row G7 2 1 z0.length (c 7) (i64s z0), Seg.row G6 2 1 y2.length (c 6) (i64s y2), Seg.row G5 2 1 y1.length (c 5) (i64s y1), Seg.row G4 2 1 y0.length (c 4) (i64s y0), Seg.row G3 2 1 x3.length (c 3) (i64s x3), Seg.row G2 2 1 x2.length (c 2) (i64s x2), Seg.row G1 2 1 x1.length (c 1) (i64s x1), Seg.row G0 2 1 x0.length (c 0) (i64s x0)] ⟨w, kys [] []⟩ := by
  refine At.loop (n := v0.length) (env0 := [(2, .pointer (some ⟨b2, 0, none⟩)), (5, .pointer (some ⟨b5, 0, none⟩)), (6, .pointer (some ⟨b6, 0, none⟩)), (17, .int .i64 0)]) (fun mm env bx hp => ∃ (i : Nat) (gq : Option Nat) (cq : Nat), mm = v0.length - i ∧ i ≤ v0.length ∧ env = [(2, .pointer (some ⟨b2, 0, none⟩)), (5, .pointer (some ⟨b5, 0, none⟩)), (6, .pointer (some ⟨b6, 0, none⟩)), (17, .int .i64 i)] ∧
    bx = [(b6, 178, [sv G0 x0.length (c 0), sv G1 x1.length (c 1), sv G2 x2.length (c 2), sv G3 x3.length (c 3), sv G4 y0.length (c 4), sv G5 y1.length (c 5), sv G6 y2.length (c 6), sv G7 z0.length (c 7), sv G8 z1.length (c 8), sv G9 z2.length (c 9), sv G10 z3.length (c 10), sv G11 z4.length (c 11), sv G12 z5.length (c 12), sv G13 v0.length (c 13), sv G14 v1.length (c 14)]), (b5, 50, [sv h0 x0.length d0, sv h1 y0.length d1, sv h2 z0.length d2, sv gq i cq, .int .i64 n]), (b2, 50, [sv none 0 0, sv none 0 0, sv none 0 0, sv none 0 0, .int .i64 0])] ∧ hp = [Seg.row gq 109 2 i cq ((rowsT 2 i [v0, v1]).flatMap i64s), Seg.row h2 107 6 z0.length d2 ((rowsT 6 z0.length [z0, z1, z2, z3, z4, z5]).flatMap i64s), Seg.row h1 105 3 y0.length d1 ((rowsT 3 y0.length [y0, y1, y2]).flatMap i64s), Seg.row h0 103 4 x0.length d0 ((rowsT 4 x0.length [x0, x1, x2, x3]).flatMap i64s), Seg.row G14 2 1 v1.length (c 14) (i64s v1), Seg.row G13 2 1 v0.length (c 13) (i64s v0), Seg.row G12 2 1 z5.length (c 12) (i64s z5), Seg.row G11 2 1 z4.length (c 11) (i64s z4), Seg.row G10 2 1 z3.length (c 10) (i64s z3), Seg.row G9 2 1 z2.length (c 9) (i64s z2), Seg.row G8 2 1 z1.length (c 8) (i64s z1), Seg.row G7 2 1 z0.length (c 7) (i64s z0), Seg.row G6 2 1 y2.length (c 6) (i64s y2), Seg.row G5 2 1 y1.length (c 5) (i64s y1), Seg.row G4 2 1 y0.length (c 4) (i64s y0), Seg.row G3 2 1 x3.length (c 3) (i64s x3), Seg.row G2 2 1 x2.length (c 2) (i64s x2), Seg.row G1 2 1 x1.length (c 1) (i64s x1), Seg.row G0 2 1 x0.length (c 0) (i64s x0)]) rfl ⟨0, none, 0, rfl, by omega, rfl, rfl, rfl⟩ ⟨rfl, rfl, rfl, rfl, trivial⟩ ?_
  rintro mm env bx hp ⟨i, h3, d3, rfl, hi3, rfl, rfl, rfl⟩ ih
  by_cases hlt : i < v0.length
  · have hle : i < 1024 := by omega
    obtain ⟨q0, e0⟩ : ∃ q, v0[i]? = some q := ⟨_, List.getElem?_eq_getElem (by omega)⟩
    obtain ⟨q1, e1⟩ : ∃ q, v1[i]? = some q := ⟨_, List.getElem?_eq_getElem (by omega)⟩
    refine At.rowSome 5 rfl (by omega) (fun gg0 hg0 => ?_)
    subst hg0
    refine At.rowSome 4 rfl (by omega) (fun gg1 hg1 => ?_)
    subst hg1
    have r0 : ∀ {bx : Bx} {sa sb sc sd : Seg}, RdW ⟨w, kys [] []⟩ bx [sa, sb, sc, sd, Seg.row (some gg1) 2 1 v1.length (c 14) (i64s v1), Seg.row (some gg0) 2 1 v0.length (c 13) (i64s v0), Seg.row G12 2 1 z5.length (c 12) (i64s z5), Seg.row G11 2 1 z4.length (c 11) (i64s z4), Seg.row G10 2 1 z3.length (c 10) (i64s z3), Seg.row G9 2 1 z2.length (c 9) (i64s z2), Seg.row G8 2 1 z1.length (c 8) (i64s z1), Seg.row G7 2 1 z0.length (c 7) (i64s z0), Seg.row G6 2 1 y2.length (c 6) (i64s y2), Seg.row G5 2 1 y1.length (c 5) (i64s y1), Seg.row G4 2 1 y0.length (c 4) (i64s y0), Seg.row G3 2 1 x3.length (c 3) (i64s x3), Seg.row G2 2 1 x2.length (c 2) (i64s x2), Seg.row G1 2 1 x1.length (c 1) (i64s x1), Seg.row G0 2 1 x0.length (c 0) (i64s x0)] gg0 (0 + (i : Int).toNat * 1) [.int .i64 q0] := fun {bx sa sb sc sd} => RdW.row (j := 5) rfl (fun i' u hu => by
      match i', hu with
      | 0, hu => simp at hu; subst hu; rw [show 0 + (i : Int).toNat * 1 + 0 = i by omega]; exact i64s_get e0)
    have r1 : ∀ {bx : Bx} {sa sb sc sd : Seg}, RdW ⟨w, kys [] []⟩ bx [sa, sb, sc, sd, Seg.row (some gg1) 2 1 v1.length (c 14) (i64s v1), Seg.row (some gg0) 2 1 v0.length (c 13) (i64s v0), Seg.row G12 2 1 z5.length (c 12) (i64s z5), Seg.row G11 2 1 z4.length (c 11) (i64s z4), Seg.row G10 2 1 z3.length (c 10) (i64s z3), Seg.row G9 2 1 z2.length (c 9) (i64s z2), Seg.row G8 2 1 z1.length (c 8) (i64s z1), Seg.row G7 2 1 z0.length (c 7) (i64s z0), Seg.row G6 2 1 y2.length (c 6) (i64s y2), Seg.row G5 2 1 y1.length (c 5) (i64s y1), Seg.row G4 2 1 y0.length (c 4) (i64s y0), Seg.row G3 2 1 x3.length (c 3) (i64s x3), Seg.row G2 2 1 x2.length (c 2) (i64s x2), Seg.row G1 2 1 x1.length (c 1) (i64s x1), Seg.row G0 2 1 x0.length (c 0) (i64s x0)] gg1 (0 + (i : Int).toNat * 1) [.int .i64 q1] := fun {bx sa sb sc sd} => RdW.row (j := 4) rfl (fun i' u hu => by
      match i', hu with
      | 0, hu => simp at hu; subst hu; rw [show 0 + (i : Int).toNat * 1 + 0 = i by omega]; exact i64s_get e1)
    have hrow : i64s [q0, q1] = i64s (Eng.rowAt 2 [v0, v1] i) := by simp [Eng.rowAt, nthI, List.range_succ, e0, e1]
    refine At.run 100 true [true] [hB 0] rfl oK ?_
    refine At.draw 17 rfl rfl rfl rfl ?_
    refine AtD.pures (ob := True) true (by kernel_rfl) [0] (fuel := 16) (by kernel_rfl) rfl oK ?_
    refine AtD.late 2 11 1 13 3 true [] [hB 0, hR [.int .i64 q0], hB 0, hR [.int .i64 q1]] [hB 1] ⟨by kernel_rfl, by kernel_rfl, by kernel_rfl, rfl, by kernel_rfl, by kernel_rfl, rfl, rfl, by kernel_rfl⟩ rfl rfl rfl (by and_intros <;> first | exact r0 | exact r1 | exact oK) rfl rfl oK ?_ ?_
    · refine AtD.fork1 13 (by kernel_rfl) (StepD.by [] rfl rfl rfl rfl trivial (OpOk.buildSlice rfl rfl rfl rfl rfl rfl rfl (fun bb hbb => ?_)))
      refine AtD.fork1 14 (by kernel_rfl) (StepD.by [] rfl rfl rfl rfl trivial (OpOk.append 0 2 16 (i64s [q0, q1]) rfl rfl rfl rfl rfl rfl rfl (RdW.blk0 (i := 0) rfl) rfl (i64s_one _) (by omega) (by omega) fun gq' cq' => ?_))
      refine AtD.pures (ob := True) true (by kernel_rfl) [15] (fuel := 1) (by kernel_rfl) rfl oK ?_
      refine AtD.fork1 16 (by kernel_rfl) (StepD.by0 [] rfl rfl rfl trivial (OpOk.one true [] [hB 2] rfl (by and_intros <;> first | simp [Value.oneCell', sv]; done | exact oK) ?_))
      refine AtD.done (by kernel_rfl) ?_
      refine At.keep [false, true, true, true] [true, true, true, true, true, true, true, true, true, true, true, true, true, true, true, true, true, true, true] rfl ?_
      refine At.run 100 true [] [] rfl oK ?_
      refine At.weak (ih (v0.length - (i + 1)) _ _ _ (by omega) ⟨i + 1, gq', cq', rfl, by omega, rfl, rfl, ?_⟩) ⟨rfl, rfl, rfl, some_int_eq (by omega), trivial⟩
      simp only [rowsT_snoc, List.flatMap_append, List.flatMap_cons, List.flatMap_nil, List.append_nil, ← hrow]
    · refine StepD.by [] rfl rfl rfl rfl trivial (OpOk.buildSlice rfl rfl rfl rfl rfl rfl rfl (fun bb hbb => ?_))
      refine AtD.fork1 1 (by kernel_rfl) (StepD.by [] rfl rfl rfl rfl trivial (OpOk.one true [] [hB 2] rfl oK ?_))
      refine AtD.fork1 14 (by kernel_rfl) (StepD.by [] rfl rfl rfl rfl trivial (OpOk.append 0 2 16 (i64s [q0, q1]) rfl rfl rfl rfl rfl rfl rfl (RdW.blk0 (i := 0) rfl) rfl (i64s_one _) (by omega) (by omega) fun gq' cq' => ?_))
      refine AtD.pures (ob := True) true (by kernel_rfl) [15] (fuel := 1) (by kernel_rfl) rfl oK ?_
      refine AtD.fork1 16 (by kernel_rfl) (StepD.by0 [] rfl rfl rfl trivial (OpOk.one true [] [hB 2] rfl (by and_intros <;> first | simp [Value.oneCell', sv]; done | exact oK) ?_))
      refine AtD.done (by kernel_rfl) ?_
      refine At.keep [false, true, true, true] [true, true, true, true, true, true, true, true, true, true, true, true, true, true, true, true, true, true, true] rfl ?_
      refine At.run 100 true [] [] rfl oK ?_
      refine At.weak (ih (v0.length - (i + 1)) _ _ _ (by omega) ⟨i + 1, gq', cq', rfl, by omega, rfl, rfl, ?_⟩) ⟨rfl, rfl, rfl, some_int_eq (by omega), trivial⟩
      simp only [rowsT_snoc, List.flatMap_append, List.flatMap_cons, List.flatMap_nil, List.append_nil, ← hrow]
  · have : i = v0.length := by omega
    subst this
    refine At.run 100 true [false] [hB 0] rfl oK ?_
    exact At.weak (hk h3 d3) ⟨rfl, rfl, rfl, trivial⟩

theorem Tryz.rGet13_w (s : List UInt8) (w : World) (hs : s.length ≤ 9223372036854775807) :
    Tri Tryz.prog 48 [str s] w [] (fun v bx hp => ∃ G : BkG, v = .tuple #[.agg ⟨bkV (getBk s).1 G.A⟩, .int .i64 (getBk s).2] ∧ bx = [] ∧ hp = Tryz.bkRows (getBk s).1 G) := by
  refine Tri.enter (bx := []) (hp := []) Tryz.func48 rfl (by kernel_rfl) rfl (Own.nil w) ?_
  refine At.run 100 true [] [] rfl trivial ?_
  refine At.step [] rfl rfl rfl rfl rfl trivial (OpOk.alloc (cs := [sv none 0 0, sv none 0 0, sv none 0 0, sv none 0 0, .int .i64 0]) rfl (by kernel_rfl) fun b2 hb2 => ?_)
  refine At.run 100 true [] [] rfl trivial ?_
  refine At.step [] rfl rfl rfl rfl rfl trivial (OpOk.call rfl (fun w' hw' => Tryz.rOf_w ⟨s.toArray⟩ w') ?_)
  rintro v bx' hp' ⟨b, rfl, rfl, rfl⟩
  have hN0 := rdN_lt s 0 0 1099511627776
  have hA0 := rdN_a (l := s) (a := 0) (f := 0) (most := 1099511627776) (by omega)
  have hNum : ∀ {w' : World} {bx : Bx}, WOk ⟨w, kys [] []⟩ ((b, 176, rdr ⟨s.toArray⟩ 0 0) :: bx) [] w' → _ := fun {w'} {bx} hw' => Tryz.rNum_w ⟨s.toArray⟩ 0 0 b 1099511627776 w' (by omega) (by rw [bl_str]; exact hs) (Own.head hw'.toOwn)
  simp only [bl_str] at hNum
  obtain ⟨n, a, e0, hN⟩ : ∃ n a f, rdN s 0 0 1099511627776 = (n, a, f) := ⟨_, _, _, rfl⟩
  rw [hN] at hN0 hA0 hNum
  simp only at hN0 hA0 hNum
  refine At.run 100 true [] [hU (.int .u64 n) 0 (rdr ⟨s.toArray⟩ a e0)] rfl (by and_intros <;> first | exact fun w' hw' => hNum hw' | exact oK) ?_
  refine At.step [] rfl rfl rfl rfl rfl trivial (OpOk.alloc (cs := [sv none 0 0, sv none 0 0, sv none 0 0, sv none 0 0, .int .i64 0]) rfl (by kernel_rfl) fun b5 hb5 => ?_)
  by_cases he0 : e0 = 0
  · subst he0
    have hlen : ((bl ⟨s.toArray⟩).length) = s.length := by rw [bl_str]
    refine At.run 100 true [false] [hB 0, hB 1, hB 1] rfl (by and_intros <;> first | simp [Value.oneCell']; done | exact oK) ?_
    refine At.step [] rfl rfl rfl rfl rfl trivial (OpOk.alloc (cs := [sv none 0 0, sv none 0 0, sv none 0 0, sv none 0 0, sv none 0 0, sv none 0 0, sv none 0 0, sv none 0 0, sv none 0 0, sv none 0 0, sv none 0 0, sv none 0 0, sv none 0 0, sv none 0 0, sv none 0 0]) rfl (by kernel_rfl) fun b6 hb6 => ?_)
    refine At.keep [true, true, false, true] [] rfl ?_
    refine At.run 100 true [] [] rfl oK ?_
    refine At.loop (n := 15) (env0 := [(0, str (s.drop a)), (2, .pointer (some ⟨b2, 0, none⟩)), (5, .pointer (some ⟨b5, 0, none⟩)), (6, .pointer (some ⟨b6, 0, none⟩)), (7, .int .i64 0)]) (fun mm env bx hp => ∃ (i : Nat) (cs : List (List Int)) (r : List UInt8) (g : Nat → Option Nat) (c : Nat → Nat), mm = 15 - i ∧ i ≤ 15 ∧
      env = [(0, str r), (2, .pointer (some ⟨b2, 0, none⟩)), (5, .pointer (some ⟨b5, 0, none⟩)), (6, .pointer (some ⟨b6, 0, none⟩)), (7, .int .i64 i)] ∧ bx = [(b6, 178, cellG cs g c i), (b5, 50, [sv none 0 0, sv none 0 0, sv none 0 0, sv none 0 0, .int .i64 n]), (b2, 50, [sv none 0 0, sv none 0 0, sv none 0 0, sv none 0 0, .int .i64 0])] ∧ hp = rowsG 2 cs g c i ∧ getSeq (mosts.take i) (s.drop a) = (cs, r, 0)) rfl
      ⟨0, [], s.drop a, fun _ => none, fun _ => 0, rfl, by omega, rfl, rfl, rfl, rfl⟩ ⟨rfl, rfl, rfl, rfl, rfl, trivial⟩ ?_
    rintro mm env bx hp ⟨i, cs, r, g, c, rfl, hi, rfl, rfl, rfl, hseq⟩ ih
    obtain ⟨hcl, hrl, -⟩ := getSeq_in hseq
    have hcl : cs.length = i := by rw [hcl, List.length_take]; simp [mosts]; omega
    rw [List.length_drop] at hrl
    by_cases hlt : i < 15
    · have hmg := mosts_get hlt
      refine At.cutAll (ι := {m : Nat // mosts[i]? = some m ∧ m ≤ 65536}) ⟨3, [0, 1, 1, 0, 0, 1, 0, 0, 1, 0, 1, 1, 1, 1, 1, 1], [2, 3, 4, 5, 6, 7, 8, 9]⟩ (fun m => [(0, str r), (2, .pointer (some ⟨b2, 0, none⟩)), (5, .pointer (some ⟨b5, 0, none⟩)), (6, .pointer (some ⟨b6, 0, none⟩)), (7, .int .i64 i), (57, str r), (58, .int .i64 (m.1 : Nat))]) (fun _ => [(b6, 178, cellG cs g c i), (b5, 50, [sv none 0 0, sv none 0 0, sv none 0 0, sv none 0 0, .int .i64 n]), (b2, 50, [sv none 0 0, sv none 0 0, sv none 0 0, sv none 0 0, .int .i64 0])]) (fun _ => rowsG 2 cs g c i) ?_ (fun hz => ?_)
      · rintro ⟨m, hm, hm2⟩
        have hcg := fun w' => Tryz.rGet_w ⟨r.toArray⟩ m w' hm2 (by rw [bl_str]; omega)
        simp only [bl_str] at hcg
        have hca := colG_a r m
        obtain ⟨x, k, ee, hGc⟩ : ∃ c k ee, colG r m = (c, k, ee) := ⟨_, _, _, rfl⟩
        rw [hGc] at hcg hca
        simp only at hcg hca
        refine At.step [] rfl rfl rfl rfl rfl trivial (OpOk.call rfl (fun w' _ => hcg w') ?_)
        rintro v bx' hp' ⟨cg, cc, rfl, rfl, rfl⟩
        have hk2 : (k : Int) ≤ ((bl ⟨r.toArray⟩).length : Int) := by rw [bl_str]; omega
        have hsn := getSeq_snoc m hseq
        rw [hGc, ← mosts_take hm] at hsn
        simp only at hsn
        by_cases hee : ee = 0
        · subst hee
          rw [if_neg (by simp)] at hsn
          refine At.run 100 true [false] [] rfl oK ?_
          refine At.step0 [] rfl rfl rfl rfl trivial (OpOk.storeBlk 0 rfl rfl rfl rfl rfl rfl (by rw [cellG_len]; simp only [List.length_cons, List.length_nil]; omega) ?_)
          refine At.run 100 true [] [] rfl oK ?_
          refine At.weak (ih (15 - (i + 1)) _ _ _ (by omega) ⟨i + 1, cs ++ [x], r.drop k, _, _, rfl, by omega, rfl, ?_, rowsG_snoc hcl cg cc, hsn⟩) ⟨rfl, rfl, rfl, rfl, some_int_eq (by omega), trivial⟩
          rw [← cellG_set hcl hlt cg cc, show 0 + (i : Int).toNat * 1 = i by omega]; rfl
        · rw [if_pos hee] at hsn
          have hfull : (getSeq mosts (s.drop a)).2.2 = ee := by
            have := getSeq_bad (mosts.drop (i + 1)) (ms := mosts.take (i + 1)) (s := s.drop a) (by rw [hsn]; exact hee)
            rw [List.take_append_drop, hsn] at this; exact this
          obtain ⟨c9, r9, e9, h9⟩ : ∃ p1 p2 p3, getSeq mosts (s.drop a) = (p1, p2, p3) := ⟨_, _, _, rfl⟩
          rw [h9] at hfull
          simp only at hfull
          subst hfull
          have hb := (getBk_seq hN h9).1 hee
          refine At.run 100 true [true] [hB 2] rfl (by and_intros <;> first | simp [Value.oneCell']; done | exact oK) ?_
          refine At.keep [true, true, true] [] (by simp only [forceL_eq]; exact Prod.ext rfl (selL_none _)) ?_
          refine At.nilRow 103 4 ?_
          refine At.nilRow 105 3 ?_
          refine At.nilRow 107 6 ?_
          refine At.nilRow 109 2 ?_
          exact At.retK [] [true, true, true, true] [hB 2] rfl rfl Tryz.func48 rfl oK ⟨⟨none, none, none, none, 0, 0, 0, 0⟩, by rw [hb]; rfl, rfl, by rw [hb]; rfl⟩
      · by_cases h4 : i < 4
        · refine At.run 100 true [true, false, false, false, false] [] rfl oK ?_
          exact At.weak (hz ⟨32, by rw [hmg, if_neg (by omega), if_neg (by omega)], by omega⟩) ⟨rfl, rfl, rfl, rfl, rfl, rfl, rfl, trivial⟩
        · by_cases h7 : i < 7
          · refine At.run 100 true [true, true, true] [] rfl oK ?_
            exact At.weak (hz ⟨1024, by rw [hmg, if_pos (by omega)], by omega⟩) ⟨rfl, rfl, rfl, rfl, rfl, rfl, rfl, trivial⟩
          · by_cases h13 : i < 13
            · refine At.run 100 true [true, true, false, true, true] [] rfl oK ?_
              exact At.weak (hz ⟨64, by rw [hmg, if_neg (by omega), if_pos (by omega)], by omega⟩) ⟨rfl, rfl, rfl, rfl, rfl, rfl, rfl, trivial⟩
            · refine At.run 100 true [true, true, false, true, false] [] rfl oK ?_
              exact At.weak (hz ⟨32, by rw [hmg, if_neg (by omega), if_neg (by omega)], by omega⟩) ⟨rfl, rfl, rfl, rfl, rfl, rfl, rfl, trivial⟩
    · have : i = 15 := by omega
      subst this
      rw [show mosts.take 15 = mosts from rfl] at hseq
      obtain ⟨x0, x1, x2, x3, y0, y1, y2, z0, z1, z2, z3, z4, z5, v0, v1, hcs, hin, hb9⟩ := (getBk_seq hN hseq).2 rfl
      obtain ⟨-, -, hmo⟩ := getSeq_in hseq
      clear ih hlt
      by_cases hr : r = []
      · subst hr
        refine At.run 100 true [false, false] [] rfl oK ?_
        refine At.loop (n := 15) (env0 := [(2, .pointer (some ⟨b2, 0, none⟩)), (5, .pointer (some ⟨b5, 0, none⟩)), (6, .pointer (some ⟨b6, 0, none⟩)), (12, .int .i64 0)]) (fun mm env bx hp => ∃ (i : Nat), mm = 15 - i ∧ i ≤ 15 ∧
          env = [(2, .pointer (some ⟨b2, 0, none⟩)), (5, .pointer (some ⟨b5, 0, none⟩)), (6, .pointer (some ⟨b6, 0, none⟩)), (12, .int .i64 i)] ∧ bx = [(b6, 178, cellG cs g c 15), (b5, 50, [sv none 0 0, sv none 0 0, sv none 0 0, sv none 0 0, .int .i64 n]), (b2, 50, [sv none 0 0, sv none 0 0, sv none 0 0, sv none 0 0, .int .i64 0])] ∧ hp = rowsG 2 cs g c 15 ∧ ∀ k, k < i → lenK cs k = lenK cs (grp k)) rfl
          ⟨0, rfl, by omega, rfl, rfl, rfl, fun k hk => by omega⟩ ⟨rfl, rfl, rfl, rfl, trivial⟩ ?_
        rintro mm env bx hp ⟨i, rfl, hi, rfl, rfl, rfl, hev⟩ ih
        by_cases hlt : i < 15
        · have hgi : grp i ≤ i := by unfold grp; split <;> (try split) <;> (try split) <;> omega
          refine At.cutAll (ι := Unit) ⟨0, [0, 1, 1, 1, 1, 0, 0, 1, 0, 0, 1, 0, 1, 1, 1, 1, 1, 1, 1, 1], []⟩ (fun _ => [(2, .pointer (some ⟨b2, 0, none⟩)), (5, .pointer (some ⟨b5, 0, none⟩)), (6, .pointer (some ⟨b6, 0, none⟩)), (12, .int .i64 i), (13, .int .i64 (grp i : Nat))]) (fun _ => [(b6, 178, cellG cs g c 15), (b5, 50, [sv none 0 0, sv none 0 0, sv none 0 0, sv none 0 0, .int .i64 n]), (b2, 50, [sv none 0 0, sv none 0 0, sv none 0 0, sv none 0 0, .int .i64 0])]) (fun _ => rowsG 2 cs g c 15) ?_ (fun hz => ?_)
          · rintro -
            have ra : ∀ {bx : Bx} {hp : List Seg}, RdW ⟨w, kys [] []⟩ ((b6, 178, cellG cs g c 15) :: bx) hp b6 (0 + (i : Int).toNat * 1) [sv (g i) (lenK cs i) (c i)] := fun {_ _} => RdW.blk (i := 0) rfl (fun j u hu => by
              match j, hu with
              | 0, hu => simp only [List.getElem?_cons_zero, Option.some.injEq] at hu; subst hu; rw [show 0 + (i : Int).toNat * 1 + 0 = i by omega]; exact cellG_get hlt (by omega))
            have rb : ∀ {bx : Bx} {hp : List Seg}, RdW ⟨w, kys [] []⟩ ((b6, 178, cellG cs g c 15) :: bx) hp b6 (0 + (grp i : Int).toNat * 1) [sv (g (grp i)) (lenK cs (grp i)) (c (grp i))] := fun {_ _} => RdW.blk (i := 0) rfl (fun j u hu => by
              match j, hu with
              | 0, hu => simp only [List.getElem?_cons_zero, Option.some.injEq] at hu; subst hu; rw [show 0 + (grp i : Int).toNat * 1 + 0 = grp i by omega]; exact cellG_get (by omega) (by omega))
            refine At.quiet true [] [hR [sv (g i) (lenK cs i) (c i)], hR [sv (g (grp i)) (lenK cs (grp i)) (c (grp i))]] ⟨by kernel_rfl, by kernel_rfl, rfl, rfl, rfl⟩ rfl rfl rfl (by and_intros <;> first | exact ra | exact rb | exact oK) ?_
            by_cases he : lenK cs i = lenK cs (grp i)
            · refine At.run 100 true [false] [] rfl (by and_intros <;> first | simp [he]; done | exact oK) ?_
              refine At.weak (ih (15 - (i + 1)) _ _ _ (by omega) ⟨i + 1, rfl, by omega, rfl, rfl, rfl, fun k hk => ?_⟩) ⟨rfl, rfl, rfl, some_int_eq (by omega), trivial⟩
              by_cases hki : k = i
              · subst hki; exact he
              · exact hev k (by omega)
            · have hb : getBk s = (zeroBk, 3) := by
                rw [hb9, if_neg]
                rintro ⟨-, v1', v2', v3', v4', -⟩
                apply he
                subst hcs
                simp only [evenB, List.all_cons, List.all_nil, Bool.and_true, Bool.and_eq_true, decide_eq_true_eq] at v1' v2' v3' v4'
                match i, hlt with
                | 0, _ | 4, _ | 7, _ | 13, _ => rfl
                | 1, _ => exact v1'.1
                | 2, _ => exact v1'.2.1
                | 3, _ => exact v1'.2.2
                | 5, _ => exact v2'.1
                | 6, _ => exact v2'.2
                | 8, _ => exact v3'.1
                | 9, _ => exact v3'.2.1
                | 10, _ => exact v3'.2.2.1
                | 11, _ => exact v3'.2.2.2.1
                | 12, _ => exact v3'.2.2.2.2
                | 14, _ => exact v4'
              refine At.run 100 true [true] [hB 2] rfl (by and_intros <;> first | simp; done | simp [Value.oneCell']; done | exact oK) ?_
              refine At.keep [true, true, true] [] (by simp only [forceL_eq]; exact Prod.ext rfl (selL_none _)) ?_
              refine At.nilRow 103 4 ?_
              refine At.nilRow 105 3 ?_
              refine At.nilRow 107 6 ?_
              refine At.nilRow 109 2 ?_
              exact At.retK [] [true, true, true, true] [hB 2] rfl rfl Tryz.func48 rfl oK ⟨⟨none, none, none, none, 0, 0, 0, 0⟩, by rw [hb]; rfl, rfl, by rw [hb]; rfl⟩
          · by_cases h4 : i < 4
            · refine At.run 100 true [true, false, false, false] [] rfl oK ?_
              exact At.weak (hz ()) ⟨rfl, rfl, rfl, rfl, some_int_eq (by unfold grp; rw [if_pos h4]; rfl), trivial⟩
            · by_cases h7 : i < 7
              · refine At.run 100 true [true, true, false, false] [] rfl oK ?_
                exact At.weak (hz ()) ⟨rfl, rfl, rfl, rfl, some_int_eq (by unfold grp; rw [if_neg h4, if_pos h7]; rfl), trivial⟩
              · by_cases h13 : i < 13
                · refine At.run 100 true [true, true, true, false] [] rfl oK ?_
                  exact At.weak (hz ()) ⟨rfl, rfl, rfl, rfl, some_int_eq (by unfold grp; rw [if_neg h4, if_neg h7, if_pos h13]; rfl), trivial⟩
                · refine At.run 100 true [true, true, true, true] [] rfl oK ?_
                  exact At.weak (hz ()) ⟨rfl, rfl, rfl, rfl, some_int_eq (by unfold grp; rw [if_neg h4, if_neg h7, if_neg h13]; rfl), trivial⟩
        · have : i = 15 := by omega
          subst this
          refine At.run 100 true [false] [] rfl oK ?_
          clear ih hlt
          subst hcs
          have l1 : x1.length = x0.length := hev 1 (by omega)
          have l2 : x2.length = x0.length := hev 2 (by omega)
          have l3 : x3.length = x0.length := hev 3 (by omega)
          have l5 : y1.length = y0.length := hev 5 (by omega)
          have l6 : y2.length = y0.length := hev 6 (by omega)
          have l8 : z1.length = z0.length := hev 8 (by omega)
          have l9 : z2.length = z0.length := hev 9 (by omega)
          have l10 : z3.length = z0.length := hev 10 (by omega)
          have l11 : z4.length = z0.length := hev 11 (by omega)
          have l12 : z5.length = z0.length := hev 12 (by omega)
          have l14 : v1.length = v0.length := hev 14 (by omega)
          have m1 : x0.length ≤ 32 := hmo 0 x0 rfl
          have m2 : y0.length ≤ 1024 := hmo 4 y0 rfl
          have m3 : z0.length ≤ 64 := hmo 7 z0 rfl
          have m4 : v0.length ≤ 32 := hmo 13 v0 rfl
          have hinn : ∀ (l : List (List Int)), (∀ c, c ∈ l → c ∈ [x0, x1, x2, x3, y0, y1, y2, z0, z1, z2, z3, z4, z5, v0, v1]) → ∀ c, c ∈ l → ∀ x, x ∈ c → inK .i64 x := fun l hl c hc => hin c (hl c hc)
          obtain ⟨bk, hbkd⟩ : ∃ bk : Bk, bk = ⟨listT 4 [x0, x1, x2, x3], listT 3 [y0, y1, y2], listT 6 [z0, z1, z2, z3, z4, z5], listT 2 [v0, v1], n⟩ := ⟨_, rfl⟩
          have hb0 : getBk s = if mayB bk = true then (bk, 0) else (zeroBk, 3) := by
            rw [hb9, ← hbkd]
            have e1 : evenB [x0, x1, x2, x3] = true := by simp [evenB, l1, l2, l3]
            have e2 : evenB [y0, y1, y2] = true := by simp [evenB, l5, l6]
            have e3 : evenB [z0, z1, z2, z3, z4, z5] = true := by simp [evenB, l8, l9, l10, l11, l12]
            have e4 : evenB [v0, v1] = true := by simp [evenB, l14]
            by_cases hm : mayB bk = true
            · rw [if_pos hm, if_pos ⟨rfl, e1, e2, e3, e4, hm⟩]
            · rw [if_neg hm, if_neg (fun h => hm h.2.2.2.2.2)]
          have hbk : BkIn bk := by
            rw [hbkd]
            refine ⟨rowsT_recs (hinn _ (by simp)), rowsT_recs (hinn _ (by simp)), rowsT_recs (hinn _ (by simp)), rowsT_recs (hinn _ (by simp)), ?_, ?_, ?_, ?_, ?_⟩
            all_goals first | (simp only [listT, rowsT_len, firstN]; omega) | (simp only [inK]; omega)
          have hval : ∀ {h0 h1 h2 h3 : Option Nat} {d0 d1 d2 d3 : Nat}, bkV bk (BkG.A ⟨h0, h1, h2, h3, d0, d1, d2, d3⟩) = [sv h0 x0.length d0, sv h1 y0.length d1, sv h2 z0.length d2, sv h3 v0.length d3, .int .i64 n] := by
            intros; rw [hbkd]; simp only [bkV, listT, rowsT_len, firstN] <;> rfl
          have hrows : ∀ {h0 h1 h2 h3 : Option Nat} {d0 d1 d2 d3 : Nat}, Tryz.bkRows bk ⟨h0, h1, h2, h3, d0, d1, d2, d3⟩ = [Seg.row h3 109 2 v0.length d3 ((rowsT 2 v0.length [v0, v1]).flatMap i64s), Seg.row h2 107 6 z0.length d2 ((rowsT 6 z0.length [z0, z1, z2, z3, z4, z5]).flatMap i64s), Seg.row h1 105 3 y0.length d1 ((rowsT 3 y0.length [y0, y1, y2]).flatMap i64s), Seg.row h0 103 4 x0.length d0 ((rowsT 4 x0.length [x0, x1, x2, x3]).flatMap i64s)] := by
            intros; rw [hbkd]; simp only [Tryz.bkRows, listT, rowsT_len, firstN]
          clear hb9 hbkd hev hin hinn hmo hseq
          rw [show cellG [x0, x1, x2, x3, y0, y1, y2, z0, z1, z2, z3, z4, z5, v0, v1] g c 15 = [sv (g 0) x0.length (c 0), sv (g 1) x1.length (c 1), sv (g 2) x2.length (c 2), sv (g 3) x3.length (c 3), sv (g 4) y0.length (c 4), sv (g 5) y1.length (c 5), sv (g 6) y2.length (c 6), sv (g 7) z0.length (c 7), sv (g 8) z1.length (c 8), sv (g 9) z2.length (c 9), sv (g 10) z3.length (c 10), sv (g 11) z4.length (c 11), sv (g 12) z5.length (c 12), sv (g 13) v0.length (c 13), sv (g 14) v1.length (c 14)] from rfl, show rowsG 2 [x0, x1, x2, x3, y0, y1, y2, z0, z1, z2, z3, z4, z5, v0, v1] g c 15 = [Seg.row (g 14) 2 1 v1.length (c 14) (i64s v1), Seg.row (g 13) 2 1 v0.length (c 13) (i64s v0), Seg.row (g 12) 2 1 z5.length (c 12) (i64s z5), Seg.row (g 11) 2 1 z4.length (c 11) (i64s z4), Seg.row (g 10) 2 1 z3.length (c 10) (i64s z3), Seg.row (g 9) 2 1 z2.length (c 9) (i64s z2), Seg.row (g 8) 2 1 z1.length (c 8) (i64s z1), Seg.row (g 7) 2 1 z0.length (c 7) (i64s z0), Seg.row (g 6) 2 1 y2.length (c 6) (i64s y2), Seg.row (g 5) 2 1 y1.length (c 5) (i64s y1), Seg.row (g 4) 2 1 y0.length (c 4) (i64s y0), Seg.row (g 3) 2 1 x3.length (c 3) (i64s x3), Seg.row (g 2) 2 1 x2.length (c 2) (i64s x2), Seg.row (g 1) 2 1 x1.length (c 1) (i64s x1), Seg.row (g 0) 2 1 x0.length (c 0) (i64s x0)] from rfl]
          generalize g 0 = G0, g 1 = G1, g 2 = G2, g 3 = G3, g 4 = G4, g 5 = G5, g 6 = G6, g 7 = G7, g 8 = G8, g 9 = G9, g 10 = G10, g 11 = G11, g 12 = G12, g 13 = G13, g 14 = G14
          refine At.nilRow 103 4 ?_
          refine At.nilRow 105 3 ?_
          refine At.nilRow 107 6 ?_
          refine At.nilRow 109 2 ?_
          refine At.weak (Tryz.rg13_H w b2 b5 b6 n (by omega) l1 l2 l3 (fun h0 d0 => ?_)) ⟨rfl, rfl, rfl, rfl, trivial⟩
          refine Tryz.rg13_S w b2 b5 b6 n h0 d0 (by omega) l5 l6 (fun h1 d1 => ?_)
          refine Tryz.rg13_O w b2 b5 b6 n h0 d0 h1 d1 (by omega) l8 l9 l10 l11 l12 (fun h2 d2 => ?_)
          refine Tryz.rg13_R w b2 b5 b6 n h0 d0 h1 d1 h2 d2 (by omega) l14 (fun h3 d3 => ?_)
          have hM : CallOb Tryz.prog ⟨w, kys [] []⟩ [(b6, 178, [sv G0 x0.length (c 0), sv G1 x1.length (c 1), sv G2 x2.length (c 2), sv G3 x3.length (c 3), sv G4 y0.length (c 4), sv G5 y1.length (c 5), sv G6 y2.length (c 6), sv G7 z0.length (c 7), sv G8 z1.length (c 8), sv G9 z2.length (c 9), sv G10 z3.length (c 10), sv G11 z4.length (c 11), sv G12 z5.length (c 12), sv G13 v0.length (c 13), sv G14 v1.length (c 14)]), (b5, 50, [sv h0 x0.length d0, sv h1 y0.length d1, sv h2 z0.length d2, sv h3 v0.length d3, .int .i64 n]), (b2, 50, [sv none 0 0, sv none 0 0, sv none 0 0, sv none 0 0, .int .i64 0])] [Seg.row h3 109 2 v0.length d3 ((rowsT 2 v0.length [v0, v1]).flatMap i64s), Seg.row h2 107 6 z0.length d2 ((rowsT 6 z0.length [z0, z1, z2, z3, z4, z5]).flatMap i64s), Seg.row h1 105 3 y0.length d1 ((rowsT 3 y0.length [y0, y1, y2]).flatMap i64s), Seg.row h0 103 4 x0.length d0 ((rowsT 4 x0.length [x0, x1, x2, x3]).flatMap i64s), Seg.row G14 2 1 v1.length (c 14) (i64s v1), Seg.row G13 2 1 v0.length (c 13) (i64s v0), Seg.row G12 2 1 z5.length (c 12) (i64s z5), Seg.row G11 2 1 z4.length (c 11) (i64s z4), Seg.row G10 2 1 z3.length (c 10) (i64s z3), Seg.row G9 2 1 z2.length (c 9) (i64s z2), Seg.row G8 2 1 z1.length (c 8) (i64s z1), Seg.row G7 2 1 z0.length (c 7) (i64s z0), Seg.row G6 2 1 y2.length (c 6) (i64s y2), Seg.row G5 2 1 y1.length (c 5) (i64s y1), Seg.row G4 2 1 y0.length (c 4) (i64s y0), Seg.row G3 2 1 x3.length (c 3) (i64s x3), Seg.row G2 2 1 x2.length (c 2) (i64s x2), Seg.row G1 2 1 x1.length (c 1) (i64s x1), Seg.row G0 2 1 x0.length (c 0) (i64s x0)] 98 [.agg ⟨[sv h0 x0.length d0, sv h1 y0.length d1, sv h2 z0.length d2, sv h3 v0.length d3, .int .i64 n]⟩] (.bool (mayB bk)) := fun w' hw' => by
            have := Tryz.rMay_w bk (BkG.A ⟨h0, h1, h2, h3, d0, d1, d2, d3⟩) w' hbk (Tryz.bkRows_ok hw' (fun s hs => by rw [hrows] at hs; exact List.mem_append_left _ hs))
            rw [hval] at this; exact this
          cases hm : mayB bk with
          | true =>
            rw [hm] at hM
            have hb : getBk s = (bk, 0) := by rw [hb0, if_pos hm]
            refine At.run 100 true [false] [hB 1, hC (.bool true), hB 1, hB 2] rfl (by and_intros <;> first | exact hM | simp [Value.oneCell', sv]; done | exact oK) ?_
            exact At.retK [] [true, true, true, true] [hB 2] rfl rfl Tryz.func48 rfl oK ⟨⟨h0, h1, h2, h3, d0, d1, d2, d3⟩, by rw [hb, hval] <;> rfl, rfl, by rw [hb, hrows] <;> rfl⟩
          | false =>
            rw [hm] at hM
            have hb : getBk s = (zeroBk, 3) := by rw [hb0, if_neg (by rw [hm]; simp)]
            refine At.run 100 true [true] [hB 1, hC (.bool false), hB 2] rfl (by and_intros <;> first | exact hM | simp [Value.oneCell']; done | exact oK) ?_
            refine At.keep [true, true, true] [] (by simp only [forceL_eq]; exact Prod.ext rfl (selL_none _)) ?_
            refine At.nilRow 103 4 ?_
            refine At.nilRow 105 3 ?_
            refine At.nilRow 107 6 ?_
            refine At.nilRow 109 2 ?_
            exact At.retK [] [true, true, true, true] [hB 2] rfl rfl Tryz.func48 rfl oK ⟨⟨none, none, none, none, 0, 0, 0, 0⟩, by rw [hb]; rfl, rfl, by rw [hb]; rfl⟩
      · have hb : getBk s = (zeroBk, 3) := by rw [hb9, if_neg (fun h => hr h.1)]
        refine At.run 100 true [false, true] [hB 2] rfl (by and_intros <;> first | simp [hr]; done | simp [Value.oneCell']; done | exact oK) ?_
        refine At.keep [true, true, true] [] (by simp only [forceL_eq]; exact Prod.ext rfl (selL_none _)) ?_
        refine At.nilRow 103 4 ?_
        refine At.nilRow 105 3 ?_
        refine At.nilRow 107 6 ?_
        refine At.nilRow 109 2 ?_
        exact At.retK [] [true, true, true, true] [hB 2] rfl rfl Tryz.func48 rfl oK ⟨⟨none, none, none, none, 0, 0, 0, 0⟩, by rw [hb]; rfl, rfl, by rw [hb]; rfl⟩
  · have hb : getBk s = (zeroBk, e0) := by unfold getBk; rw [hN]; simp only; rw [if_pos he0]
    refine At.run 100 true [true] [hB 0, hB 1] rfl (by and_intros <;> first | simp [Value.oneCell']; done | exact oK) ?_
    refine At.draw 7 rfl rfl rfl rfl ?_
    refine AtD.pures (ob := True) true (by kernel_rfl) [0, 1, 2, 3] (fuel := 3) (by kernel_rfl) rfl oK ?_
    refine AtD.fork2 4 5 (by kernel_rfl) ?_ ?_
    · refine StepD.by [] rfl rfl rfl rfl trivial (OpOk.one true [] [hB 1] rfl rfl ?_)
      refine AtD.fork1 5 (by kernel_rfl) (StepD.by0 [] rfl rfl rfl trivial (OpOk.one true [] [hB 2] rfl (by and_intros <;> first | simp [Value.oneCell']; done | exact oK) ?_))
      refine AtD.pures (ob := True) true (by kernel_rfl) [6] (fuel := 0) (by kernel_rfl) rfl trivial ?_
      refine AtD.done (by kernel_rfl) ?_
      refine At.run 100 true [] [] rfl trivial ?_
      refine At.keep [true, true, true] [] (by simp only [forceL_eq]; exact Prod.ext rfl (selL_none _)) ?_
      refine At.nilRow 103 4 ?_
      refine At.nilRow 105 3 ?_
      refine At.nilRow 107 6 ?_
      refine At.nilRow 109 2 ?_
      exact At.retK [] [true, true, true, true] [hB 2] rfl rfl Tryz.func48 rfl oK ⟨⟨none, none, none, none, 0, 0, 0, 0⟩, by rw [hb]; rfl, rfl, by rw [hb]; rfl⟩
    · refine StepD.by0 [] rfl rfl rfl trivial (OpOk.one true [] [hB 2] rfl (by and_intros <;> first | simp [Value.oneCell']; done | exact oK) ?_)
      refine AtD.fork1 4 (by kernel_rfl) (StepD.by [] rfl rfl rfl rfl trivial (OpOk.one true [] [hB 1] rfl rfl ?_))
      refine AtD.pures (ob := True) true (by kernel_rfl) [6] (fuel := 0) (by kernel_rfl) rfl trivial ?_
      refine AtD.done (by kernel_rfl) ?_
      refine At.run 100 true [] [] rfl trivial ?_
      refine At.keep [true, true, true] [] (by simp only [forceL_eq]; exact Prod.ext rfl (selL_none _)) ?_
      refine At.nilRow 103 4 ?_
      refine At.nilRow 105 3 ?_
      refine At.nilRow 107 6 ?_
      refine At.nilRow 109 2 ?_
      exact At.retK [] [true, true, true, true] [hB 2] rfl rfl Tryz.func48 rfl oK ⟨⟨none, none, none, none, 0, 0, 0, 0⟩, by rw [hb]; rfl, rfl, by rw [hb]; rfl⟩

end Go.Proofs

/-
  Engine, part 32: regions that draw their order: quiet operations, whichever they are, in the text's order.
-/
import Derived.Test.YthmoeebmeifleaaGreatDoorM11
import Derived.Test.YthmoeebmeifleaaGreatDoorM15
import Derived.Test.YthmoeebmeifleaaGreatDoorM8
/-
  Engine, part 32: regions that draw their order: quiet operations, whichever they are, in the text's order.
-/
namespace Go.Eng
open Go

section
variable {P : Program} {md : Region.Mode} {ops : Array Oper} {W : World → Prop} {Q' : Exit → Act → World → Prop}
def wpQ (P : Program) (ops : Array Oper) (W : World → Prop) (L : Act → Prop) : List Nat → Act → Prop
  | [], a => L a
  | i :: is, a => qOp P ops W i (wpQ P ops W L is) a
def memB (l : List Nat) (i : Nat) : Bool := l.any fun j => Nat.beq j i
def chkL (md : Region.Mode) (ops : Array Oper) (q : List Nat) : List Nat → Array Bool → Bool
  | [], _ => true
  | k :: is, listed => (Region.ready md ops listed).contains k && Region.free md ops listed k && Nat.beq (clo md ops k 8 listed).size ops.size && (Region.ready md ops (clo md ops k 8 listed)).all (fun j => Nat.beq j k) &&
      (List.range ops.size).all (fun j => !(clo md ops k 8 listed).getD j false || listed.getD j false || memB q j) && subB listed (clo md ops k 8 listed) && chkL md ops q is (listed.setIfInBounds k true)
/-- Marked before, or one of these. -/
def qB (q : List Nat) (l0 : Array Bool) (j : Nat) : Bool := l0.getD j false || memB q j
theorem qTo_lx {q : List Nat} {l0 lst : Array Bool} {g : Nat} (hsel : Region.noSelect ops = true) :
    ∀ (is : List Nat) (listed : Array Bool) (a : Act), (∀ j, listed.getD j false = true → qB q l0 j = true) → (∀ k, k ∈ is → memB q k = true) → setAll is listed = lst → chkL md ops q is listed = true →
      wpQ P ops W (qTo P md ops W Q' (qB q l0) g lst) is a → qTo P md ops W Q' (qB q l0) (g + is.length) listed a
  | [], listed, a, _, _, hm, _, h => by
    have : listed = lst := hm
    subst this
    exact h
  | k :: is, listed, a, hl, hk, hm, hB, h => by
    simp only [chkL, Bool.and_eq_true] at hB
    obtain ⟨⟨⟨⟨⟨⟨hr, hf⟩, hs⟩, hc⟩, hq⟩, hsub⟩, hB'⟩ := hB
    have hr' : k ∈ Region.ready md ops listed := by simpa using hr
    obtain ⟨-, o, h0, -⟩ := mem_ready.1 hr'
    have hst : qOp P ops W k (wpQ P ops W (qTo P md ops W Q' (qB q l0) g lst) is) a := h
    obtain ⟨v, hy, hK⟩ := yieldsIn_of_qOp h0 hst
    have hsz := Nat.eq_of_beq_eq_true hs
    refine qTo_first h0 (Region.noSelect_spec hsel) hsz (fun j hj => Nat.eq_of_beq_eq_true (List.all_eq_true.1 hc j hj)) (fun j hj => ?_) _ listed a (fun j hj => ?_) (Region.free_spec h0 hf) hr' hy
      (qTo_lx hsel is _ _ (fun j hj => ?_) (fun x hx => hk x (List.mem_cons_of_mem _ hx)) hm hB' hK)
    · by_cases hjs : j < ops.size
      · have := List.all_eq_true.1 hq j (List.mem_range.2 hjs)
        rw [hj] at this
        simp only [Bool.not_true, Bool.false_or, Bool.or_eq_true] at this
        rcases this with h1 | h1
        · exact hl j h1
        · unfold qB; rw [h1, Bool.or_true]
      · rw [Array.getD_eq_getD_getElem?, Array.getElem?_eq_none (by omega)] at hj; cases hj
    · by_cases hjs : j < listed.size
      · have := List.all_eq_true.1 hsub j (List.mem_range.2 hjs)
        rw [hj] at this
        simpa using this
      · rw [Array.getD_eq_getD_getElem?, Array.getElem?_eq_none (by omega)] at hj; cases hj
    · by_cases hjk : k = j
      · subst hjk; unfold qB; rw [hk k (List.mem_cons_self ..), Bool.or_true]
      · rw [getD_set_ne false hjk] at hj; exact hl j hj
end

def noSt (ops : Array Oper) (is : List Nat) : Bool := is.all fun i => match ops[i]? with
  | some o => !isStore o.op
  | none => false
theorem runOps_qI {P : Program} {nt : Nat} {nw : Bool} {hp : List Seg} {S : Base} {ops : Array Oper} {df : List Deferred} {Q : Act → Prop} :
    ∀ (is : List Nat) (dec : List (Nat × Bool)) (ds : List Bool) (hs : List Hint) (env : Env) (bx : Bx) (ob : Prop) (r : R), noSt ops is = true →
      runOps P nt nw hp S ops.toList is dec ds hs env bx ob = r → r.l = [] → mild hs = true → r.ob →
      (∀ tm, tm.size = nt → Knows r.env tm → Q ⟨tm, df⟩) → ob ∧ r.bx = bx ∧ ∀ tm, tm.size = nt → Knows env tm → wpQ P ops (WOk S bx hp) Q is ⟨tm, df⟩
  | [], dec, ds, hs, env, bx, ob, r, hns, h, hl, hm, ho, hQ => by
    simp only [runOps] at h
    subst h
    exact ⟨ho, rfl, fun tm hsz hkn => hQ tm hsz hkn⟩
  | k :: is, dec, ds, hs, env, bx, ob, r, hns, h, hl, hm, ho, hQ => by
    simp only [runOps] at h
    split at h
    · subst h; simp at hl
    · rename_i o hn
      rw [nth_eq] at hn
      have hi : ops[k]? = some o := by simpa using hn
      have hns' : noSt ops is = true := by simp only [noSt, List.all_cons, Bool.and_eq_true] at hns; exact hns.2
      have hos : isStore o.op = false := by
        simp only [noSt, List.all_cons, Bool.and_eq_true, hi] at hns
        simpa using hns.1
      split at h
      · subst h; simp at hl
      · rename_i hfit
        split at h
        · subst h; simp at hl
        · rename_i wanted dec' ds' o1 hg
          obtain ⟨ob1, hob1, himp1⟩ := addG_ok ob hg
          rw [hob1] at h
          cases wanted with
          | false =>
            simp only [putK_eq] at h
            have ih := runOps_qI (df := df) (Q := Q) is _ _ _ _ _ _ r hns' h hl hm ho hQ
            obtain ⟨h12, hb, h3⟩ := ih
            obtain ⟨h1, h2⟩ := himp1 h12
            refine ⟨h2, hb, fun tm hsz hkn => ?_⟩
            show qOp P ops (WOk S _ hp) k _ _
            unfold qOp
            simp only [hi]
            rw [if_neg (by rw [guardOf_ok hg h1 hkn]; simp), put_act]
            exact h3 _ (by rw [size_put]; exact hsz) (hkn.putE hsz hfit _)
          | true =>
            simp only at h
            split at h
            · subst h; simp at hl
            · rename_i v ds'' hs'' bx'' o2 ho1
              obtain ⟨ob2, hob2, himp2⟩ := addOb_ok (b := triv P nw o.op) (o := o2) ob1 (fun ht => triv_ok ho1 ht)
              rw [hob2] at h
              have h' : runOps P nt nw hp S ops.toList is dec' ds'' hs'' (putE o.dst v env) bx'' ob2 = r := by
                cases hfc : forced o.op with
                | true => rw [hfc] at h; simp only [forceV_eq, putK_eq] at h; exact h
                | false => rw [hfc] at h; simp only [putK_eq] at h; exact h
              have hq : o2 → bx'' = bx ∧ mild hs'' = true ∧ ∀ w, WOk S bx hp w → ∀ ρ, Agree env ρ → (execOp ρ o).run P w = .ok (.value v) w ∨ (∃ f args, (execOp ρ o).run P w = .ok (.enter f args) w ∧ Calls P f args w (fun e w' => e = .returned v ∧ WOk S bx hp w')) :=
                fun h2 => one1_q ho1 h2 hos hm
              have hmild : mild hs'' = true := mild_of ho1 hm
              have ih := runOps_qI (df := df) (Q := Q) is _ _ _ _ _ _ r hns' h' hl hmild ho hQ
              obtain ⟨h012, hb, h3⟩ := ih
              obtain ⟨h0, h12⟩ := himp2 h012
              obtain ⟨h1, h2⟩ := himp1 h12
              obtain ⟨rfl, -, hall⟩ := hq h0
              refine ⟨h2, hb, fun tm hsz hkn => ?_⟩
              show qOp P ops (WOk S _ hp) k _ _
              unfold qOp
              simp only [hi]
              rw [if_pos (by rw [guardOf_ok hg h1 hkn])]
              refine ⟨v, fun w hw => ?_, by rw [put_act]; exact h3 _ (by rw [size_put]; exact hsz) (hkn.putE hsz hfit _)⟩
              unfold Oper.quietAt
              rw [eval_fev]
              rcases hall w hw _ hkn.agree with hr | ⟨f, args, hr, hc⟩
              · rw [hr]; exact ⟨rfl, rfl⟩
              · rw [hr]; exact ⟨rfl, hc⟩


/-- What is asked of a region some of whose operations, is, may be done quietly now, in this order, whatever else of them comes first. -/
structure LxOk (P : Program) (c : Code) (p : List Nat) (is : List Nat) (listed lst : Array Bool) : Prop where
  sel : Region.noSelect (opsOf c p) = true
  noStore : noSt (opsOf c p) is = true
  mark : setAll is listed = lst
  chk : chkL .any (opsOf c p) is is listed = true
  rest : (Region.ready .any (opsOf c p) lst).all (fun j => !(qB is listed j)) = true
theorem AtD.lx {C : Ctx} {p : List Nat} {df : List Deferred} {env env1 : Env} {bx bx1 : Bx} {hp : List Seg} {S : Base} {ds1 : List Bool} {hs1' : List Hint} {ob1 : Prop} {listed : Array Bool} (is : List Nat) (g : Nat) (ds : List Bool) (hs : List Hint) (h1 : runOps C.P C.nt true hp S (opsOf C.body p).toList is [] ds hs env bx True = ⟨[], ds1, hs1', env1, bx1, ob1⟩) (ho1 : ob1)
    (hk : AtD C p df g (setAll is listed) env1 bx hp S) (hok : LxOk C.P C.body p is listed (setAll is listed) := by exact ⟨by kernel_rfl, by kernel_rfl, rfl, by kernel_rfl, by kernel_rfl⟩) (hm1 : mild hs = true := by rfl)
    (h0 : g = 0 → Region.ready .any (opsOf C.body p) (setAll is listed) = [] := by first | exact fun h => absurd h (Nat.succ_ne_zero _) | exact fun _ => by kernel_rfl) : AtD C p df (g + is.length) listed env bx hp S := by
  intro w hw tm hsz hkn
  have base : ∀ tm, tm.size = C.nt → Knows env1 tm → qTo C.P .any (opsOf C.body p) (WOk S bx hp) (Qf C p df) (qB is listed) g (setAll is listed) ⟨tm, df⟩ := by
    intro tm hsz hkn
    cases g with
    | zero => exact ⟨h0 rfl, fun w hw => hk w hw tm hsz hkn⟩
    | succ g =>
      refine ⟨fun w hw => hk w hw tm hsz hkn, fun j hj hq => ?_⟩
      have h3 := List.all_eq_true.1 hok.rest j hj
      rw [hq] at h3; cases h3
  have hr := runOps_qI (df := df) (Q := qTo C.P .any (opsOf C.body p) (WOk S bx hp) (Qf C p df) (qB is listed) g (setAll is listed)) is [] ds hs env bx True _ hok.noStore h1 rfl hm1 ho1 base
  have hq := hr.2.2 tm hsz hkn
  have H := qTo_lx (P := C.P) (md := .any) (Q' := Qf C p df) (W := WOk S bx hp) (q := is) (l0 := listed) (g := g) (lst := setAll is listed) hok.sel is listed ⟨tm, df⟩ (fun j hj => by unfold qB; rw [hj]; rfl) (fun k hk => by
    unfold memB; exact List.any_eq_true.2 ⟨k, hk, by simp⟩) hok.mark hok.chk hq
  exact qTo_wp H hw
end Go.Eng

/-
  Plain laws of layer 13: columns set into things.
-/
namespace Go.Eng
open Go

theorem rowsT_snoc (sz n : Nat) (cs : List (List Int)) : rowsT sz (n + 1) cs = rowsT sz n cs ++ [rowAt sz cs n] := by simp [rowsT, List.range_succ]
theorem flat_rows_len (sz n : Nat) (cs : List (List Int)) : ((rowsT sz n cs).flatMap i64s).length = n * sz := by
  induction n with
  | zero => simp [rowsT]
  | succ n ih => rw [rowsT_snoc, List.flatMap_append, List.length_append, ih]; simp [i64s, rowAt_len, Nat.succ_mul]
theorem flat_rows_get (sz : Nat) (cs : List (List Int)) : ∀ (n k f : Nat), k < n → f < sz → ((rowsT sz n cs).flatMap i64s)[k * sz + f]? = some (.int .i64 (nthI ((cs[f]?).getD []) k))
  | 0, k, f, hk, _ => by omega
  | n + 1, k, f, hk, hf => by
    rw [rowsT_snoc, List.flatMap_append]
    by_cases hkn : k < n
    · have : k * sz + f < n * sz := by
        have : (k + 1) * sz ≤ n * sz := Nat.mul_le_mul_right _ (by omega)
        rw [Nat.succ_mul] at this; omega
      rw [List.getElem?_append_left (by rw [flat_rows_len]; exact this)]
      exact flat_rows_get sz cs n k f hkn hf
    · have : k = n := by omega
      subst this
      rw [List.getElem?_append_right (by rw [flat_rows_len]; omega), flat_rows_len, Nat.add_sub_cancel_left]
      simp [i64s, rowAt, hf]
theorem putL_one {α : Type} (l : List α) (i : Nat) (y : α) : putL l i [y] = l.set i y := by simp [putL, setL_eq]
theorem putL_one_len {α : Type} (l : List α) (i : Nat) (y : α) : (putL l i [y]).length = l.length := by simp [putL_one]

theorem snoc_get {α : Type} (cs : List α) (c : α) (f : Nat) : (cs ++ [c])[f]? = if f = cs.length then some c else cs[f]? := by
  by_cases h : f = cs.length
  · subst h; simp
  · rw [if_neg h]
    by_cases h2 : f < cs.length
    · exact List.getElem?_append_left h2
    · rw [List.getElem?_append_right (by omega), List.getElem?_eq_none (by simp; omega), List.getElem?_eq_none (by omega)]

/-- One number more of a column set. -/
theorem rowsT_set {sz n j : Nat} {cs : List (List Int)} {c : List Int} {x : Int} (hi : cs.length < sz) (_hj : j < n) (hx : c[j]? = some x) :
    putL ((rowsT sz n (cs ++ [c.take j])).flatMap i64s) (j * sz + cs.length) [.int .i64 x] = (rowsT sz n (cs ++ [c.take (j + 1)])).flatMap i64s := by
  rw [putL_one]
  apply List.ext_getElem?
  intro m
  by_cases hm : m < n * sz
  · have hsz : 0 < sz := by omega
    have hk : m / sz < n := Nat.div_lt_of_lt_mul (by rw [Nat.mul_comm]; exact hm)
    have hf : m % sz < sz := Nat.mod_lt _ hsz
    have hmd : m / sz * sz + m % sz = m := by rw [Nat.mul_comm]; exact Nat.div_add_mod m sz
    have h1 := flat_rows_get sz (cs ++ [c.take j]) n (m / sz) (m % sz) hk hf
    have h2 := flat_rows_get sz (cs ++ [c.take (j + 1)]) n (m / sz) (m % sz) hk hf
    rw [hmd] at h1 h2
    rw [h2, List.getElem?_set]
    have hjl : j < c.length := (List.getElem?_eq_some_iff.1 hx).1
    by_cases he : j * sz + cs.length = m
    · rw [if_pos he, if_pos (by rw [flat_rows_len]; omega)]
      have hf' : m % sz = cs.length := by rw [← he, Nat.mul_comm, Nat.mul_add_mod]; exact Nat.mod_eq_of_lt hi
      have hk' : m / sz = j := by rw [← he, Nat.mul_comm, Nat.mul_add_div hsz, Nat.div_eq_of_lt hi, Nat.add_zero]
      rw [hf', hk', snoc_get, if_pos rfl]
      simp [nthI, hx]
    · rw [if_neg he, h1, snoc_get, snoc_get]
      by_cases hf' : m % sz = cs.length
      · have hk' : m / sz ≠ j := fun h => he (by rw [← hmd, h, hf'])
        rw [if_pos hf', if_pos hf']
        simp only [Option.getD_some, nthI, List.getElem?_take, Option.some.injEq, Value.int.injEq, true_and]
        by_cases hlt : m / sz < j
        · rw [if_pos hlt, if_pos (by omega)]
        · rw [if_neg hlt, if_neg (by omega)]
      · rw [if_neg hf', if_neg hf']
  · rw [List.getElem?_eq_none (by rw [List.length_set, flat_rows_len]; omega), List.getElem?_eq_none (by rw [flat_rows_len]; omega)]
theorem rowsT_nil_snoc (sz n : Nat) (cs : List (List Int)) : rowsT sz n (cs ++ [[]]) = rowsT sz n cs := by
  unfold rowsT
  apply List.map_congr_left
  intro k _
  unfold rowAt
  apply List.map_congr_left
  intro f _
  rw [snoc_get]
  split
  · rename_i h; subst h; simp [nthI]
  · rfl
theorem rowsT_zero (sz n : Nat) : (rowsT sz n []).flatMap i64s = List.replicate (n * sz) (.int .i64 0) := by
  have h : rowsT sz n [] = List.replicate n (List.replicate sz 0) := by
    unfold rowsT
    rw [List.eq_replicate_iff]
    refine ⟨by simp, fun b hb => ?_⟩
    simp only [List.mem_map] at hb
    obtain ⟨k, _, rfl⟩ := hb
    rw [List.eq_replicate_iff]
    refine ⟨by simp [rowAt], fun b hb => ?_⟩
    simp only [rowAt, List.mem_map] at hb
    obtain ⟨f, _, rfl⟩ := hb
    simp [nthI]
  rw [h]
  induction n with
  | zero => simp
  | succ n ih =>
    have ih := ih (by rw [rowsT_snoc] at h; rw [List.replicate_succ'] at h; exact (List.append_inj' h rfl).1)
    rw [List.replicate_succ', List.flatMap_append, ih, Nat.succ_mul, ← List.replicate_append_replicate]
    simp [i64s]

theorem even_snoc (cs : List (List Int)) (c : List Int) : evenB (cs ++ [c]) = (evenB cs && (cs.isEmpty || decide (c.length = firstN cs))) := by
  cases cs with
  | nil => simp [evenB]
  | cons d ds => simp [evenB, firstN] <;> rfl
theorem firstN_snoc {cs : List (List Int)} {c : List Int} (h : cs ≠ []) : firstN (cs ++ [c]) = firstN cs := by
  cases cs with
  | nil => exact (h rfl).elim
  | cons d ds => rfl

theorem getCols_snoc {most : Nat} : ∀ {i : Nat} {s : List UInt8} {cs : List (List Int)} {r : List UInt8}, getCols most i s = (cs, r, 0) →
    getCols most (i + 1) s = if (colG r most).2.2 ≠ 0 then (cs, r, (colG r most).2.2) else (cs ++ [(colG r most).1], r.drop (colG r most).2.1, 0)
  | 0, s, cs, r, h => by
    simp only [getCols, Prod.mk.injEq, and_true] at h
    obtain ⟨rfl, rfl⟩ := h
    simp [getCols]
  | i + 1, s, cs, r, h => by
    rw [getCols] at h
    split at h
    · rename_i he
      simp only [Prod.mk.injEq] at h; exact (he h.2.2).elim
    · rename_i he
      obtain ⟨cs', r', e', hR⟩ : ∃ a b c, getCols most i (s.drop (colG s most).2.1) = (a, b, c) := ⟨_, _, _, rfl⟩
      rw [hR] at h
      simp only [Prod.mk.injEq] at h
      obtain ⟨rfl, rfl, rfl⟩ := h
      rw [getCols, if_neg he, getCols_snoc hR]
      split <;> simp
theorem getCols_bad {most : Nat} : ∀ {i n : Nat} {s : List UInt8}, (getCols most i s).2.2 ≠ 0 → i ≤ n → (getCols most n s).2.2 = (getCols most i s).2.2
  | 0, n, s, h, _ => by simp [getCols] at h
  | i + 1, 0, s, h, hn => by omega
  | i + 1, n + 1, s, h, hn => by
    rw [getCols, getCols]
    rw [getCols] at h
    split
    · rfl
    · rename_i he
      rw [if_neg he] at h
      exact getCols_bad h (by omega)
theorem colLoop_err (l : List UInt8) : ∀ (fuel a lack : Nat) (was : Option Int) (last : Int) (out : List Int), (colLoop l fuel a lack was last out).2.2 ≠ 0 → (colLoop l fuel a lack was last out).2.1 = 0
  | 0, a, lack, was, last, out, h => by simp [colLoop] at h
  | fuel + 1, a, lack, was, last, out, h => by
    rw [colLoop] at h ⊢
    split at h
    · simp at h
    · rename_i h1
      rw [if_neg h1]
      split at h
      · rename_i h2; rw [if_pos h2]
      · rename_i h2
        rw [if_neg h2]
        split at h
        · rename_i h3; rw [if_pos h3]
        · rename_i h3; rw [if_neg h3]; exact colLoop_err l _ _ _ _ _ _ h
theorem colG_err {l : List UInt8} {most : Nat} (h : (colG l most).2.2 ≠ 0) : (colG l most).2.1 ≤ l.length := by
  have : (colG l most).2.1 = 0 := by
    unfold colG at h ⊢
    split at h
    · rename_i h1; rw [if_pos h1]
    · rename_i h1; rw [if_neg h1]; exact colLoop_err _ _ _ _ _ _ _ h
  omega
theorem colG_a (l : List UInt8) (most : Nat) : (colG l most).2.1 ≤ l.length := by
  obtain ⟨xs, n, e, hG⟩ : ∃ a b c, colG l most = (a, b, c) := ⟨_, _, _, rfl⟩
  by_cases he : e = 0
  · subst he
    obtain ⟨h1, h2, _⟩ := colG_get hG
    rw [hG]
    have := congrArg List.length h1
    rw [List.length_take] at this
    show n ≤ _
    omega
  · exact colG_err (by rw [hG]; exact he)
/-- Within the reading of a list: behind i columns. -/
structure GetI (most sz : Nat) (s : List UInt8) (e : Int) (u : Bool) (i : Nat) (a : Option Nat) (m : Nat) (xs : List Value) (s' : List UInt8) (e' : Int) (u' : Bool) : Prop where
  len : xs.length = m * sz
  le : m ≤ most
  slen : s'.length ≤ s.length
  has : 0 < i → ∃ g, a = some g
  not : i = 0 → a = none ∧ m = 0 ∧ xs = []
  ok : e' = 0 → e = 0 ∧ ∃ cs, getCols most i s = (cs, s', 0) ∧ cs.length = i ∧ u' = (u || !evenB cs) ∧ (0 < i → evenB cs = true → m = firstN cs ∧ xs = (rowsT sz m cs).flatMap i64s)
  bad : e' ≠ 0 → e' = if e ≠ 0 then e else (getCols most sz s).2.2
/-- A list read. -/
structure GetR (most sz : Nat) (s : List UInt8) (e : Int) (u : Bool) (m : Nat) (xs : List Value) (s' : List UInt8) (e' : Int) (u' : Bool) : Prop where
  len : xs.length = m * sz
  le : m ≤ most
  slen : s'.length ≤ s.length
  err : e' = if e ≠ 0 then e else (getCols most sz s).2.2
  good : e' = 0 → s' = (getCols most sz s).2.1 ∧ u' = (u || !evenB (getCols most sz s).1) ∧ (evenB (getCols most sz s).1 = true → m = firstN (getCols most sz s).1 ∧ xs = (listT sz (getCols most sz s).1).flatMap i64s)
/-- The list that a column is set into. -/
def GetC (most sz i m : Nat) (cs : List (List Int)) (c : List Int) (xs : List Value) : Prop := xs.length = m * sz ∧ m ≤ most ∧ (evenB cs = true → m = (if i = 0 then c.length else firstN cs) ∧ xs = (rowsT sz m cs).flatMap i64s)

theorem GetI.zero (most sz : Nat) (s : List UInt8) (e : Int) (u : Bool) : GetI most sz s e u 0 none 0 [] s e u where
  len := by simp
  le := Nat.zero_le _
  slen := Nat.le_refl _
  has := fun h => absurd h (Nat.lt_irrefl _)
  not := fun _ => ⟨rfl, rfl, rfl⟩
  ok := fun h => ⟨h, [], rfl, rfl, by simp [evenB], fun h => absurd h (Nat.lt_irrefl _)⟩
  bad := fun h => by rw [if_pos h]
theorem GetI.stop {most sz : Nat} {s : List UInt8} {e : Int} {u : Bool} {i : Nat} {a : Option Nat} {m : Nat} {xs : List Value} {s' : List UInt8} {e' : Int} {u' : Bool} (h : GetI most sz s e u i a m xs s' e' u') (he : e' ≠ 0) :
    GetR most sz s e u 0 [] s' e' u' := ⟨by simp, Nat.zero_le _, h.slen, h.bad he, fun h0 => absurd h0 he⟩
theorem GetI.fin {most sz : Nat} {s : List UInt8} {e : Int} {u : Bool} {a : Option Nat} {m : Nat} {xs : List Value} {s' : List UInt8} {e' : Int} {u' : Bool} (h : GetI most sz s e u sz a m xs s' e' u') (hsz : 0 < sz) :
    GetR most sz s e u m xs s' e' u' := by
  refine ⟨h.len, h.le, h.slen, ?_, fun he => ?_⟩
  · by_cases he : e' = 0
    · obtain ⟨rfl, cs, hc, _⟩ := h.ok he
      rw [hc, he]; simp
    · exact h.bad he
  · obtain ⟨rfl, cs, hc, hl, hu, hx⟩ := h.ok he
    rw [hc]
    refine ⟨rfl, hu, fun hev => ?_⟩
    obtain ⟨h1, h2⟩ := hx hsz hev
    exact ⟨h1, by rw [h2, h1]; rfl⟩
theorem GetI.bad' {most sz : Nat} {s : List UInt8} {i : Nat} {s' : List UInt8} {cs : List (List Int)} {c : List Int} {k : Nat} {ee : Int} (hi : i < sz) (hc : getCols most i s = (cs, s', 0)) (hG : colG s' most = (c, k, ee)) (he : ee ≠ 0) : ee = (getCols most sz s).2.2 := by
  have h1 := getCols_snoc hc
  rw [hG] at h1
  simp only at h1
  rw [if_pos he] at h1
  have := getCols_bad (i := i + 1) (n := sz) (s := s) (most := most) (by rw [h1]; exact he) (by omega)
  rw [this, h1]
theorem GetI.ok' {most : Nat} {s : List UInt8} {i : Nat} {s' : List UInt8} {cs : List (List Int)} {c : List Int} {k : Nat} (hc : getCols most i s = (cs, s', 0)) (hG : colG s' most = (c, k, 0)) : getCols most (i + 1) s = (cs ++ [c], s'.drop k, 0) := by
  have h1 := getCols_snoc hc
  rw [hG] at h1
  simpa using h1
theorem GetI.even {most sz : Nat} {s : List UInt8} {u : Bool} {i : Nat} {a : Option Nat} {m : Nat} {xs : List Value} {s' : List UInt8} {u' : Bool} (h : GetI most sz s 0 u i a m xs s' 0 u') (hi : i < sz) {cs : List (List Int)} (hc : getCols most i s = (cs, s', 0)) {c : List Int} {k : Nat} {ee : Int}
    (hG : colG s' most = (c, k, ee)) {m' : Nat} {xs1 xs' : List Value} (hC : GetC most sz i m' cs c xs1) (hm : c.length = m') (hl : xs'.length = m' * sz) (hx : evenB cs = true → xs' = (rowsT sz m' (cs ++ [c])).flatMap i64s) (g : Nat) :
    GetI most sz s 0 u (i + 1) (some g) m' xs' (s'.drop k) ee u' := by
  obtain ⟨h1, h2, h3⟩ := hC
  obtain ⟨-, cs0, hc0, hcl, hu, -⟩ := h.ok rfl
  rw [hc] at hc0
  simp only [Prod.mk.injEq, and_true] at hc0
  obtain rfl := hc0
  have hev : evenB (cs ++ [c]) = evenB cs := by
    rw [even_snoc]
    cases hE : evenB cs with
    | false => rfl
    | true =>
      obtain ⟨h4, -⟩ := h3 hE
      rw [Bool.true_and]
      cases cs with
      | nil => rfl
      | cons d ds =>
        simp only [List.length_cons] at hcl
        rw [if_neg (by omega)] at h4
        simp [hm, h4]
  refine ⟨hl, h2, by have := h.slen; rw [List.length_drop]; omega, fun _ => ⟨g, rfl⟩, fun h => by omega, fun he => ?_, fun he => by rw [if_neg (by simp)]; exact GetI.bad' hi hc hG he⟩
  subst he
  refine ⟨rfl, cs ++ [c], GetI.ok' hc hG, by simp [hcl], by rw [hev]; exact hu, fun _ hE => ?_⟩
  rw [hev] at hE
  obtain ⟨h4, -⟩ := h3 hE
  refine ⟨?_, hx hE⟩
  cases cs with
  | nil => simp [firstN, hm]
  | cons d ds =>
    simp only [List.length_cons] at hcl
    rw [if_neg (by omega)] at h4
    exact h4
theorem GetI.odd {most sz : Nat} {s : List UInt8} {u : Bool} {i : Nat} {a : Option Nat} {m : Nat} {xs : List Value} {s' : List UInt8} {u' : Bool} (h : GetI most sz s 0 u i a m xs s' 0 u') (hi : i < sz) {cs : List (List Int)} (hc : getCols most i s = (cs, s', 0)) {c : List Int} {k : Nat} {ee : Int}
    (hG : colG s' most = (c, k, ee)) {m' : Nat} {xs1 : List Value} (hC : GetC most sz i m' cs c xs1) (hm : c.length ≠ m') (g : Nat) :
    GetI most sz s 0 u (i + 1) (some g) m' xs1 (s'.drop k) ee true := by
  obtain ⟨h1, h2, h3⟩ := hC
  obtain ⟨-, cs0, hc0, hcl, hu, -⟩ := h.ok rfl
  rw [hc] at hc0
  simp only [Prod.mk.injEq, and_true] at hc0
  obtain rfl := hc0
  have hev : evenB (cs ++ [c]) = false := by
    rw [even_snoc]
    cases hE : evenB cs with
    | false => rfl
    | true =>
      obtain ⟨h4, -⟩ := h3 hE
      rw [Bool.true_and]
      cases cs with
      | nil => rw [if_pos (by simpa using hcl.symm)] at h4; exact absurd h4.symm hm
      | cons d ds =>
        simp only [List.length_cons] at hcl
        rw [if_neg (by omega)] at h4
        simp only [List.isEmpty_cons, Bool.false_or, decide_eq_false_iff_not]
        rw [← h4]; exact hm
  refine ⟨h1, h2, by have := h.slen; rw [List.length_drop]; omega, fun _ => ⟨g, rfl⟩, fun h => by omega, fun he => ?_, fun he => by rw [if_neg (by simp)]; exact GetI.bad' hi hc hG he⟩
  subst he
  refine ⟨rfl, cs ++ [c], GetI.ok' hc hG, by simp [hcl], by rw [hev]; simp, fun _ hE => ?_⟩
  rw [hev] at hE; cases hE
theorem rep_get {x : Value} {n j m : Nat} (hn : 0 < n) (hj : j < m) : (List.replicate m x)[j]? = (List.replicate n x)[j % (List.replicate n x).length]? := by
  rw [List.getElem?_replicate, if_pos hj, List.getElem?_replicate, List.length_replicate, if_pos (Nat.mod_lt _ hn)]
theorem GetR.e0 {most sz : Nat} {s : List UInt8} {e : Int} {u : Bool} {m : Nat} {xs : List Value} {s' : List UInt8} {e' : Int} {u' : Bool} (h : GetR most sz s e u m xs s' e' u') (he : e' = 0) : e = 0 ∧ (getCols most sz s).2.2 = 0 := by
  have h1 := h.err
  by_cases h0 : e = 0
  · subst h0; rw [if_neg (by simp)] at h1; exact ⟨rfl, by rw [← h1, he]⟩
  · rw [if_pos h0] at h1; exact absurd (h1 ▸ he) h0

/-- The parts of a book that were read, one behind the other. -/
theorem getBk_chain {s : List UInt8} {n a : Nat} {e0 : Int} (hN : rdN s 0 0 1099511627776 = (n, a, e0)) {m1 m2 m3 m4 : Nat} {x1 x2 x3 x4 : List Value} {s1 s2 s3 s4 : List UInt8} {e1 e2 e3 e4 : Int} {u1 u2 u3 u4 : Bool}
    (h1 : GetR 32 4 (s.drop a) e0 false m1 x1 s1 e1 u1) (h2 : GetR 1024 3 s1 e1 u1 m2 x2 s2 e2 u2) (h3 : GetR 64 6 s2 e2 u2 m3 x3 s3 e3 u3) (h4 : GetR 32 2 s3 e3 u3 m4 x4 s4 e4 u4) :
    (e4 ≠ 0 → getBk s = (zeroBk, e4)) ∧ (e4 = 0 → (s4 ≠ [] ∨ u4 = true) → getBk s = (zeroBk, 3)) ∧
    (e4 = 0 → s4 = [] → u4 = false → ∃ b : Bk, BkIn b ∧ b.S.length ≤ 1024 ∧ b.c = n ∧ m1 = b.H.length ∧ m2 = b.S.length ∧ m3 = b.O.length ∧ m4 = b.R.length ∧ x1 = b.H.flatMap i64s ∧ x2 = b.S.flatMap i64s ∧ x3 = b.O.flatMap i64s ∧ x4 = b.R.flatMap i64s ∧
      getBk s = if mayB b = true then (b, 0) else (zeroBk, 3)) := by
  have g1 := rdN_lt s 0 0 1099511627776
  rw [hN] at g1
  simp only at g1
  refine ⟨fun he => ?_, fun he hor => ?_, fun he hs hu => ?_⟩
  · unfold getBk
    rw [hN]
    simp only
    by_cases h0 : e0 = 0
    · subst h0
      rw [if_neg (by simp)]
      have r1 := h1.err
      rw [if_neg (by simp)] at r1
      by_cases z1 : e1 = 0
      · rw [if_neg (by rw [← r1, z1]; simp), ← (h1.good z1).1]
        have r2 := h2.err
        rw [if_neg (by rw [z1]; simp)] at r2
        by_cases z2 : e2 = 0
        · rw [if_neg (by rw [← r2, z2]; simp), ← (h2.good z2).1]
          have r3 := h3.err
          rw [if_neg (by rw [z2]; simp)] at r3
          by_cases z3 : e3 = 0
          · rw [if_neg (by rw [← r3, z3]; simp), ← (h3.good z3).1]
            have r4 := h4.err
            rw [if_neg (by rw [z3]; simp)] at r4
            rw [if_pos (by rw [← r4]; exact he), ← r4]
          · have r4 := h4.err
            rw [if_pos z3] at r4
            rw [if_pos (by rw [← r3]; exact z3), ← r3, r4]
        · have r3 := h3.err
          rw [if_pos z2] at r3
          have r4 := h4.err
          rw [if_pos (by rw [r3]; exact z2), r3] at r4
          rw [if_pos (by rw [← r2]; exact z2), ← r2, r4]
      · have r2 := h2.err
        rw [if_pos z1] at r2
        have r3 := h3.err
        rw [if_pos (by rw [r2]; exact z1), r2] at r3
        have r4 := h4.err
        rw [if_pos (by rw [r3]; exact z1), r3] at r4
        rw [if_pos (by rw [← r1]; exact z1), ← r1, r4]
    · rw [if_pos h0]
      have r1 := h1.err
      rw [if_pos h0] at r1
      have r2 := h2.err
      rw [if_pos (by rw [r1]; exact h0), r1] at r2
      have r3 := h3.err
      rw [if_pos (by rw [r2]; exact h0), r2] at r3
      have r4 := h4.err
      rw [if_pos (by rw [r3]; exact h0), r3] at r4
      rw [r4]
  · obtain ⟨z3, y4⟩ := h4.e0 he
    obtain ⟨z2, y3⟩ := h3.e0 z3
    obtain ⟨z1, y2⟩ := h2.e0 z2
    obtain ⟨z0, y1⟩ := h1.e0 z1
    unfold getBk
    rw [hN]
    simp only
    rw [if_neg (by rw [z0]; simp), if_neg (by rw [y1]; simp), ← (h1.good z1).1, if_neg (by rw [y2]; simp), ← (h2.good z2).1, if_neg (by rw [y3]; simp), ← (h3.good z3).1, if_neg (by rw [y4]; simp), ← (h4.good he).1]
    rw [if_neg]
    rintro ⟨v0, v1, v2, v3, v4, -⟩
    have w1 := (h1.good z1).2.1
    have w2 := (h2.good z2).2.1
    have w3 := (h3.good z3).2.1
    have w4 := (h4.good he).2.1
    rw [v1] at w1; rw [v2] at w2; rw [v3] at w3; rw [v4] at w4
    rw [w1] at w2; rw [w2] at w3; rw [w3] at w4
    rcases hor with h | h
    · exact h v0
    · rw [h] at w4; simp at w4
  · obtain ⟨z3, y4⟩ := h4.e0 he
    obtain ⟨z2, y3⟩ := h3.e0 z3
    obtain ⟨z1, y2⟩ := h2.e0 z2
    obtain ⟨z0, y1⟩ := h1.e0 z1
    have w1 := (h1.good z1).2.1
    have w2 := (h2.good z2).2.1
    have w3 := (h3.good z3).2.1
    have w4 := (h4.good he).2.1
    rw [hu, w3, w2, w1] at w4
    have v : evenB (getCols 32 4 (s.drop a)).1 = true ∧ evenB (getCols 1024 3 s1).1 = true ∧ evenB (getCols 64 6 s2).1 = true ∧ evenB (getCols 32 2 s3).1 = true := by
      revert w4
      cases evenB (getCols 32 4 (s.drop a)).1 <;> cases evenB (getCols 1024 3 s1).1 <;> cases evenB (getCols 64 6 s2).1 <;> cases evenB (getCols 32 2 s3).1 <;> simp
    obtain ⟨v1, v2, v3, v4⟩ := v
    obtain ⟨p1, q1⟩ := (h1.good z1).2.2 v1
    obtain ⟨p2, q2⟩ := (h2.good z2).2.2 v2
    obtain ⟨p3, q3⟩ := (h3.good z3).2.2 v3
    obtain ⟨p4, q4⟩ := (h4.good he).2.2 v4
    have i1 := (getCols_get (most := 32) (n := 4) (s := s.drop a) (Prod.ext rfl (Prod.ext rfl y1))).2.2.2
    have i2 := (getCols_get (most := 1024) (n := 3) (s := s1) (Prod.ext rfl (Prod.ext rfl y2))).2.2.2
    have i3 := (getCols_get (most := 64) (n := 6) (s := s2) (Prod.ext rfl (Prod.ext rfl y3))).2.2.2
    have i4 := (getCols_get (most := 32) (n := 2) (s := s3) (Prod.ext rfl (Prod.ext rfl y4))).2.2.2
    have k1 := h1.le
    have k2 := h2.le
    have k3 := h3.le
    have k4 := h4.le
    refine ⟨⟨listT 4 (getCols 32 4 (s.drop a)).1, listT 3 (getCols 1024 3 s1).1, listT 6 (getCols 64 6 s2).1, listT 2 (getCols 32 2 s3).1, n⟩, ⟨rowsT_recs i1, rowsT_recs i2, rowsT_recs i3, rowsT_recs i4, ?_, ?_, ?_, ?_, ?_⟩, ?_, rfl, ?_, ?_, ?_, ?_, q1, q2, q3, q4, ?_⟩
    all_goals first | (simp only [listT, rowsT_len]; omega) | (simp only [inK]; omega) | skip
    unfold getBk
    rw [hN]
    simp only
    rw [if_neg (by rw [z0]; simp), if_neg (by rw [y1]; simp), ← (h1.good z1).1, if_neg (by rw [y2]; simp), ← (h2.good z2).1, if_neg (by rw [y3]; simp), ← (h3.good z3).1, if_neg (by rw [y4]; simp), ← (h4.good he).1]
    split
    · rename_i hc; rw [if_pos hc.2.2.2.2.2]
    · rename_i hc; rw [if_neg (fun hm => hc ⟨hs, v1, v2, v3, v4, hm⟩)]
end Go.Eng

/-
  Plain laws of layer 13: a book's columns one by one.
-/
namespace Go.Eng
open Go

def mosts : List Nat := [32, 32, 32, 32, 1024, 1024, 1024, 64, 64, 64, 64, 64, 64, 32, 32]
/-- Columns read, each with its most. -/
def getSeq : List Nat → List UInt8 → List (List Int) × List UInt8 × Int
  | [], s => ([], s, 0)
  | m :: ms, s => if (colG s m).2.2 ≠ 0 then ([], s, (colG s m).2.2) else ((colG s m).1 :: (getSeq ms (s.drop (colG s m).2.1)).1, (getSeq ms (s.drop (colG s m).2.1)).2)

theorem getSeq_rep (m : Nat) (ms : List Nat) : ∀ (n : Nat) (s : List UInt8), getSeq (List.replicate n m ++ ms) s =
    if (getCols m n s).2.2 ≠ 0 then getCols m n s else ((getCols m n s).1 ++ (getSeq ms (getCols m n s).2.1).1, (getSeq ms (getCols m n s).2.1).2)
  | 0, s => by simp [getCols]
  | n + 1, s => by
    rw [List.replicate_succ, List.cons_append, getSeq, getCols]
    split
    · rfl
    · rename_i he
      rw [getSeq_rep m ms n]
      simp only
      by_cases hb : (getCols m n (s.drop (colG s m).2.1)).2.2 = 0
      · rw [if_neg (by simpa using hb), if_neg (by simpa using hb)]; rfl
      · rw [if_pos hb, if_pos hb]
theorem getSeq_snoc (m : Nat) : ∀ {ms : List Nat} {s : List UInt8} {cs : List (List Int)} {r : List UInt8}, getSeq ms s = (cs, r, 0) →
    getSeq (ms ++ [m]) s = if (colG r m).2.2 ≠ 0 then (cs, r, (colG r m).2.2) else (cs ++ [(colG r m).1], r.drop (colG r m).2.1, 0)
  | [], s, cs, r, h => by
    simp only [getSeq, Prod.mk.injEq, and_true] at h
    obtain ⟨rfl, rfl⟩ := h
    simp [getSeq]
  | k :: ms, s, cs, r, h => by
    rw [getSeq] at h
    split at h
    · rename_i he
      simp only [Prod.mk.injEq] at h; exact (he h.2.2).elim
    · rename_i he
      obtain ⟨cs', r', e', hR⟩ : ∃ a b c, getSeq ms (s.drop (colG s k).2.1) = (a, b, c) := ⟨_, _, _, rfl⟩
      rw [hR] at h
      simp only [Prod.mk.injEq] at h
      obtain ⟨rfl, rfl, rfl⟩ := h
      rw [List.cons_append, getSeq, if_neg he, getSeq_snoc m hR]
      split <;> simp
theorem getSeq_bad (ms' : List Nat) : ∀ {ms : List Nat} {s : List UInt8}, (getSeq ms s).2.2 ≠ 0 → (getSeq (ms ++ ms') s).2.2 = (getSeq ms s).2.2
  | [], s, h => by simp [getSeq] at h
  | k :: ms, s, h => by
    rw [List.cons_append, getSeq, getSeq]
    rw [getSeq] at h
    split
    · rfl
    · rename_i he
      rw [if_neg he] at h
      exact getSeq_bad ms' h
theorem getSeq_in : ∀ {ms : List Nat} {s : List UInt8} {cs : List (List Int)} {r : List UInt8}, getSeq ms s = (cs, r, 0) → cs.length = ms.length ∧ r.length ≤ s.length ∧ ∀ (j : Nat) (c : List Int), cs[j]? = some c → c.length ≤ (ms[j]?).getD 0
  | [], s, cs, r, h => by
    simp only [getSeq, Prod.mk.injEq, and_true] at h
    obtain ⟨rfl, rfl⟩ := h
    simp
  | k :: ms, s, cs, r, h => by
    rw [getSeq] at h
    split at h
    · rename_i he
      simp only [Prod.mk.injEq] at h; exact (he h.2.2).elim
    · rename_i he
      obtain ⟨cs', r', e', hR⟩ : ∃ a b c, getSeq ms (s.drop (colG s k).2.1) = (a, b, c) := ⟨_, _, _, rfl⟩
      rw [hR] at h
      simp only [Prod.mk.injEq] at h
      obtain ⟨rfl, rfl, rfl⟩ := h
      obtain ⟨h1, h2, h3⟩ := getSeq_in hR
      refine ⟨by simp [h1], by rw [List.length_drop] at h2; omega, fun j c hj => ?_⟩
      cases j with
      | zero => simp only [List.getElem?_cons_zero, Option.some.injEq] at hj; subst hj; simpa using colG_len s k
      | succ j => simpa using h3 j c (by simpa using hj)

/-- A book's columns, all read. -/
theorem getBk_seq {s : List UInt8} {n a : Nat} (hN : rdN s 0 0 1099511627776 = (n, a, 0)) {cs : List (List Int)} {r : List UInt8} {e : Int} (h : getSeq mosts (s.drop a) = (cs, r, e)) :
    (e ≠ 0 → getBk s = (zeroBk, e)) ∧ (e = 0 → ∃ x0 x1 x2 x3 y0 y1 y2 z0 z1 z2 z3 z4 z5 v0 v1 : List Int, cs = [x0, x1, x2, x3, y0, y1, y2, z0, z1, z2, z3, z4, z5, v0, v1] ∧
      (∀ c, c ∈ cs → ∀ x, x ∈ c → inK .i64 x) ∧
      getBk s = if r = [] ∧ evenB [x0, x1, x2, x3] = true ∧ evenB [y0, y1, y2] = true ∧ evenB [z0, z1, z2, z3, z4, z5] = true ∧ evenB [v0, v1] = true ∧ mayB ⟨listT 4 [x0, x1, x2, x3], listT 3 [y0, y1, y2], listT 6 [z0, z1, z2, z3, z4, z5], listT 2 [v0, v1], n⟩ = true
        then (⟨listT 4 [x0, x1, x2, x3], listT 3 [y0, y1, y2], listT 6 [z0, z1, z2, z3, z4, z5], listT 2 [v0, v1], n⟩, 0) else (zeroBk, 3)) := by
  have hm : mosts = List.replicate 4 32 ++ (List.replicate 3 1024 ++ (List.replicate 6 64 ++ (List.replicate 2 32 ++ []))) := rfl
  rw [hm, getSeq_rep] at h
  obtain ⟨c1, r1, e1, hR1⟩ : ∃ x y z, getCols 32 4 (s.drop a) = (x, y, z) := ⟨_, _, _, rfl⟩
  obtain ⟨c2, r2, e2, hR2⟩ : ∃ x y z, getCols 1024 3 r1 = (x, y, z) := ⟨_, _, _, rfl⟩
  obtain ⟨c3, r3, e3, hR3⟩ : ∃ x y z, getCols 64 6 r2 = (x, y, z) := ⟨_, _, _, rfl⟩
  obtain ⟨c4, r4, e4, hR4⟩ : ∃ x y z, getCols 32 2 r3 = (x, y, z) := ⟨_, _, _, rfl⟩
  have hB : getBk s = if e1 ≠ 0 then (zeroBk, e1) else if e2 ≠ 0 then (zeroBk, e2) else if e3 ≠ 0 then (zeroBk, e3) else if e4 ≠ 0 then (zeroBk, e4) else
      if r4 = [] ∧ evenB c1 = true ∧ evenB c2 = true ∧ evenB c3 = true ∧ evenB c4 = true ∧ mayB ⟨listT 4 c1, listT 3 c2, listT 6 c3, listT 2 c4, n⟩ = true then (⟨listT 4 c1, listT 3 c2, listT 6 c3, listT 2 c4, n⟩, 0) else (zeroBk, 3) := by
    unfold getBk
    rw [hN]
    simp only
    rw [if_neg (by simp), hR1]
    simp only
    rw [hR2]
    simp only
    rw [hR3]
    simp only
    rw [hR4]
  rw [hR1] at h
  simp only at h
  by_cases z1 : e1 = 0
  · subst z1
    rw [if_neg (by simp), getSeq_rep, hR2] at h
    rw [if_neg (by simp)] at hB
    simp only at h
    by_cases z2 : e2 = 0
    · subst z2
      rw [if_neg (by simp), getSeq_rep, hR3] at h
      rw [if_neg (by simp)] at hB
      simp only at h
      by_cases z3 : e3 = 0
      · subst z3
        rw [if_neg (by simp), getSeq_rep, hR4] at h
        rw [if_neg (by simp)] at hB
        simp only at h
        by_cases z4 : e4 = 0
        · subst z4
          rw [if_neg (by simp)] at h hB
          simp only [getSeq, List.append_nil, Prod.mk.injEq] at h
          obtain ⟨rfl, rfl, rfl⟩ := h
          refine ⟨fun h => absurd rfl h, fun _ => ?_⟩
          obtain ⟨-, l1, -, i1⟩ := getCols_get hR1
          obtain ⟨-, l2, -, i2⟩ := getCols_get hR2
          obtain ⟨-, l3, -, i3⟩ := getCols_get hR3
          obtain ⟨-, l4, -, i4⟩ := getCols_get hR4
          match c1, l1, c2, l2, c3, l3, c4, l4 with
          | [x0, x1, x2, x3], _, [y0, y1, y2], _, [z0, z1, z2, z3, z4, z5], _, [v0, v1], _ =>
            refine ⟨x0, x1, x2, x3, y0, y1, y2, z0, z1, z2, z3, z4, z5, v0, v1, rfl, fun c hc => ?_, hB⟩
            simp only [List.mem_append] at hc
            rcases hc with hc | hc | hc | hc
            · exact i1 c hc
            · exact i2 c hc
            · exact i3 c hc
            · exact i4 c hc
        · rw [if_pos z4] at h hB
          simp only [Prod.mk.injEq] at h
          obtain ⟨-, -, rfl⟩ := h
          exact ⟨fun _ => hB, fun h => absurd h z4⟩
      · rw [if_pos z3] at h hB
        simp only [Prod.mk.injEq] at h
        obtain ⟨-, -, rfl⟩ := h
        exact ⟨fun _ => hB, fun h => absurd h z3⟩
    · rw [if_pos z2] at h hB
      simp only [Prod.mk.injEq] at h
      obtain ⟨-, -, rfl⟩ := h
      exact ⟨fun _ => hB, fun h => absurd h z2⟩
  · rw [if_pos z1] at h hB
    simp only [Prod.mk.injEq] at h
    obtain ⟨-, -, rfl⟩ := h
    exact ⟨fun _ => hB, fun h => absurd h z1⟩

/-- The group's first column. -/
def grp (k : Nat) : Nat := if k < 4 then 0 else if k < 7 then 4 else if k < 13 then 7 else 13
def lenK (cs : List (List Int)) (k : Nat) : Nat := ((cs[k]?).getD []).length
def cellG (cs : List (List Int)) (g : Nat → Option Nat) (c : Nat → Nat) (i : Nat) : List Value := (List.range 15).map fun k => if k < i then sv (g k) (lenK cs k) (c k) else sv none 0 0
theorem cellG_len (cs : List (List Int)) (g : Nat → Option Nat) (c : Nat → Nat) (i : Nat) : (cellG cs g c i).length = 15 := by simp [cellG]
theorem cellG_get {cs : List (List Int)} {g : Nat → Option Nat} {c : Nat → Nat} {i k : Nat} (hk : k < i) (hi : i ≤ 15) : (cellG cs g c i)[k]? = some (sv (g k) (lenK cs k) (c k)) := by
  simp [cellG, show k < 15 by omega, hk]
theorem cellG_set {cs : List (List Int)} {x : List Int} {g : Nat → Option Nat} {c : Nat → Nat} {i : Nat} (hl : cs.length = i) (hi : i < 15) (g' : Option Nat) (c' : Nat) :
    putL (cellG cs g c i) i [sv g' x.length c'] = cellG (cs ++ [x]) (fun k => if k = i then g' else g k) (fun k => if k = i then c' else c k) (i + 1) := by
  rw [putL_one]
  apply List.ext_getElem?
  intro k
  rw [List.getElem?_set]
  by_cases hk : k < 15
  · by_cases hki : i = k
    · subst hki
      rw [if_pos rfl, if_pos (by rw [cellG_len]; omega), cellG_get (by omega) (by omega)]
      simp [lenK, hl]
    · rw [if_neg hki]
      by_cases hlt : k < i
      · rw [cellG_get hlt (by omega), cellG_get (by omega) (by omega)]
        simp [lenK, snoc_get, hl, Ne.symm hki]
      · simp [cellG, hk, hlt, show ¬ k < i + 1 by omega]
  · rw [if_neg (by omega), List.getElem?_eq_none (by rw [cellG_len]; omega), List.getElem?_eq_none (by rw [cellG_len]; omega)]
def rowsG (t : Nat) (cs : List (List Int)) (g : Nat → Option Nat) (c : Nat → Nat) : Nat → List Seg
  | 0 => []
  | i + 1 => Seg.row (g i) t 1 (lenK cs i) (c i) (i64s ((cs[i]?).getD [])) :: rowsG t cs g c i
theorem rowsG_congr {t : Nat} {cs cs' : List (List Int)} {g g' : Nat → Option Nat} {c c' : Nat → Nat} : ∀ {i : Nat}, (∀ k, k < i → cs[k]? = cs'[k]? ∧ g k = g' k ∧ c k = c' k) → rowsG t cs g c i = rowsG t cs' g' c' i
  | 0, _ => rfl
  | i + 1, h => by
    obtain ⟨h1, h2, h3⟩ := h i (by omega)
    rw [rowsG, rowsG, rowsG_congr (fun k hk => h k (by omega)), lenK, lenK, h1, h2, h3]
theorem rowsG_snoc {t : Nat} {cs : List (List Int)} {x : List Int} {g : Nat → Option Nat} {c : Nat → Nat} {i : Nat} (hl : cs.length = i) (g' : Option Nat) (c' : Nat) :
    Seg.row g' t 1 x.length c' (i64s x) :: rowsG t cs g c i = rowsG t (cs ++ [x]) (fun k => if k = i then g' else g k) (fun k => if k = i then c' else c k) (i + 1) := by
  rw [rowsG]
  have e1 : (cs ++ [x])[i]? = some x := by rw [snoc_get, if_pos hl.symm]
  rw [lenK, e1]
  simp only [Option.getD_some, if_true]
  rw [rowsG_congr (cs' := cs ++ [x]) (g' := fun k => if k = i then g' else g k) (c' := fun k => if k = i then c' else c k)]
  intro k hk
  rw [snoc_get, if_neg (by omega)]
  simp [show k ≠ i by omega]
theorem mosts_get {i : Nat} (hi : i < 15) : mosts[i]? = some (if 4 ≤ i ∧ i < 7 then 1024 else if 7 ≤ i ∧ i < 13 then 64 else 32) := by
  match i, hi with
  | 0, _ | 1, _ | 2, _ | 3, _ | 4, _ | 5, _ | 6, _ | 7, _ | 8, _ | 9, _ | 10, _ | 11, _ | 12, _ | 13, _ | 14, _ => rfl
theorem mosts_take {i m : Nat} (h : mosts[i]? = some m) : mosts.take (i + 1) = mosts.take i ++ [m] := by rw [List.take_add_one, h]; rfl
end Go.Eng

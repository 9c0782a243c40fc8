/-
  Engine, part 25: rows of things of so many cells each; lists of files.
-/
import Derived.Test.YtfpoclhenokhhaaE24
namespace Go.Eng
open Go

theorem At.cutU {ι : Type} {C : Ctx} {x : Loc} {df : List Deferred} {env : Env} {bx : Bx} {hp : List Seg} {S : Base} (y : Loc) (e : ι → Env) (b : ι → Bx)
    (hs : ∀ i, At C y df (e i) (b i) hp S) (hk : (∀ i, At C y df (e i) (b i) hp S) → At C x df env bx hp S) : At C x df env bx hp S := hk hs

theorem At.reshape {C : Ctx} {x : Loc} {df : List Deferred} {env : Env} {bx br : Bx} {hp hr : List Seg} {S : Base} (h : ∀ w, WOk S bx hp w → WOk S br hr w) (hk : At C x df env br hr S) : At C x df env bx hp S := fun w hw => hk w (h w hw)
theorem WOk.packS {S : Base} {bx0 bx1 : Bx} {hp : List Seg} {w : World} (h : WOk S (bx0 ++ bx1) hp w) : WOk S bx0 (Seg.pack bx1 [] :: hp) w := by
  have hk : kys bx0 (Seg.pack bx1 [] :: hp) = kys (bx0 ++ bx1) hp := by rw [kys_pack]; simp
  refine ⟨h.ext, by rw [hk]; exact h.nd, by rw [hk]; exact h.lt, by rw [hk]; exact h.own, fun e he => h.bx e (List.mem_append_left _ he), fun s hs => ?_⟩
  rcases List.mem_cons.1 hs with rfl | hs
  · exact ⟨fun e he => h.bx e (List.mem_append_right _ he), by simp⟩
  · exact h.hp s hs
theorem WOk.unpackS {S : Base} {bx0 bx1 : Bx} {hp : List Seg} {w : World} (h : WOk S bx0 (Seg.pack bx1 [] :: hp) w) : WOk S (bx0 ++ bx1) hp w := by
  have hk : kys bx0 (Seg.pack bx1 [] :: hp) = kys (bx0 ++ bx1) hp := by rw [kys_pack]; simp
  refine ⟨h.ext, by rw [← hk]; exact h.nd, by rw [← hk]; exact h.lt, by rw [← hk]; exact h.own, fun e he => ?_, fun s hs => h.hp s (List.mem_cons_of_mem _ hs)⟩
  rcases List.mem_append.1 he with he | he
  · exact h.bx e he
  · exact (h.hp _ (List.mem_cons_self ..)).1 e he

/-- The i-th one comes to the front. -/
def frontL {α : Type} (l : List α) (i : Nat) : List α := match nth l i with
  | some x => x :: l.eraseIdx i
  | none => l
theorem erase_perm {α : Type} : ∀ (l : List α) (i : Nat) (x : α), nth l i = some x → l.Perm (x :: l.eraseIdx i)
  | [], i, x, h => by simp [nth] at h
  | y :: l, 0, x, h => by simp [nth] at h; subst h; exact List.Perm.refl _
  | y :: l, i + 1, x, h => ((erase_perm l i x (by simpa [nth] using h)).cons y).trans (List.Perm.swap _ _ _)
theorem frontL_perm {α : Type} (l : List α) (i : Nat) : l.Perm (frontL l i) := by
  unfold frontL
  split
  · rename_i x h
    exact erase_perm l i x h
  · exact List.Perm.refl _
theorem frontsL_perm {α : Type} : ∀ (is : List Nat) (l : List α), l.Perm (is.foldl frontL l)
  | [], _ => List.Perm.refl _
  | i :: is, l => (frontL_perm l i).trans (frontsL_perm is _)
/-- What is said of blocks, in another order: those at these places come to the front, one behind the other, the last one ahead. -/
theorem At.order {C : Ctx} {x : Loc} {df : List Deferred} {env : Env} {bx br : Bx} {hp hr : List Seg} {S : Base} (ib ih : List Nat) (hb : ib.foldl frontL bx = br) (hh : ih.foldl frontL hp = hr) (hk : At C x df env br hr S) : At C x df env bx hp S :=
  At.perm (by rw [← hb]; exact frontsL_perm ib bx) (by rw [← hh]; exact frontsL_perm ih hp) hk

theorem flat_get {α : Type} {f : α → List Value} {sz : Nat} : ∀ {l : List α} {i : Nat} {x : α}, (∀ x, x ∈ l → (f x).length = sz) → l[i]? = some x → ∀ (j : Nat) (u : Value), (f x)[j]? = some u → (l.flatMap f)[i * sz + j]? = some u
  | [], i, x, _, h, _, _, _ => by simp at h
  | y :: l, 0, x, hl, h, j, u, hu => by
    simp only [List.getElem?_cons_zero, Option.some.injEq] at h; subst h
    rw [List.flatMap_cons, Nat.zero_mul, Nat.zero_add, List.getElem?_append_left]
    · exact hu
    · exact (List.getElem?_eq_some_iff.1 hu).1
  | y :: l, i + 1, x, hl, h, j, u, hu => by
    have hy := hl y (by simp)
    rw [List.flatMap_cons, List.getElem?_append_right (by rw [hy, Nat.succ_mul]; omega), hy, show (i + 1) * sz + j - sz = i * sz + j by rw [Nat.succ_mul]; omega]
    exact flat_get (fun z hz => hl z (by simp [hz])) (by simpa using h) j u hu
theorem flat_len {α : Type} {f : α → List Value} {sz : Nat} : ∀ {l : List α}, (∀ x, x ∈ l → (f x).length = sz) → (l.flatMap f).length = l.length * sz
  | [], _ => by simp
  | x :: l, h => by
    rw [List.flatMap_cons, List.length_append, h x (by simp), flat_len (fun y hy => h y (by simp [hy])), List.length_cons, Nat.succ_mul, Nat.add_comm]

/-- Files as names and bytes, and their cells. -/
abbrev FL := List (List UInt8 × List UInt8)
def flC (p : List UInt8 × List UInt8) : List Value := [str p.1, str p.2]
def fl (S : FL) : List Value := S.flatMap flC
theorem fl_len (S : FL) : (fl S).length = S.length * 2 := flat_len fun _ _ => rfl
theorem fl_get {S : FL} {i : Nat} {p : List UInt8 × List UInt8} (h : S[i]? = some p) : ∀ (j : Nat) (u : Value), (flC p)[j]? = some u → (fl S)[i * 2 + j]? = some u := flat_get (fun _ _ => rfl) h
theorem fl_snoc (S : FL) (p : List UInt8 × List UInt8) : fl (S ++ [p]) = fl S ++ flC p := by simp [fl]
theorem fl_ne {S : FL} (h : S ≠ []) : fl S ≠ [] := by
  cases S with
  | nil => exact (h rfl).elim
  | cons p S => simp [fl, flC]

section
variable {S0 : Base} {bx : Bx} {hp : List Seg} {g o : Nat} {S : FL} {i : Nat} {p : List UInt8 × List UInt8}
theorem RdW.fileE {off : Nat} (hc : ∀ j u, (fl S)[j]? = some u → S0.w0.cell? ⟨g, o + j, none⟩ = some u) (hm : g ∉ S0.mods) (h : S[i]? = some p) (ho : off = o + i * 2) : RdW S0 bx hp g off [str p.1, str p.2] :=
  RdW.sl hc hm (i * 2) ho (fl_get h)
theorem RdW.fileN {off : Nat} (hc : ∀ j u, (fl S)[j]? = some u → S0.w0.cell? ⟨g, o + j, none⟩ = some u) (hm : g ∉ S0.mods) (h : S[i]? = some p) (ho : off = o + i * 2) : RdW S0 bx hp g off [str p.1] :=
  RdW.sl hc hm (i * 2) ho (fun j u hu => fl_get h j u (by
    match j, hu with
    | 0, hu => exact hu))
theorem RdW.fileB {off : Nat} (hc : ∀ j u, (fl S)[j]? = some u → S0.w0.cell? ⟨g, o + j, none⟩ = some u) (hm : g ∉ S0.mods) (h : S[i]? = some p) (ho : off = o + i * 2 + 1) : RdW S0 bx hp g off [str p.2] :=
  RdW.sl hc hm (i * 2 + 1) (by omega) (fun j u hu => by
    match j, hu with
    | 0, hu => exact fl_get h 1 u hu)
end

/-- Which files may be. -/
def okE (namedB : List UInt8 → Bool) (p : List UInt8 × List UInt8) : Bool := namedB p.1 && !decide (p.2 = [])
def ltN (p q : List UInt8 × List UInt8) : Bool := Op.bytesLess p.1 q.1
def risN : FL → Bool
  | p :: q :: S => ltN p q && risN (q :: S)
  | _ => true
theorem risN_iff : ∀ S : FL, risN S = true ↔ ∀ i x y, S[i]? = some x → S[i + 1]? = some y → ltN x y = true
  | [] => by simp [risN]
  | [x] => by simp [risN]
  | x :: y :: l => by
    have ih := risN_iff (y :: l)
    rw [risN, Bool.and_eq_true, ih]
    constructor
    · rintro ⟨h1, h2⟩ i a b ha hb
      cases i with
      | zero => simp at ha hb; subst ha; subst hb; exact h1
      | succ i => exact h2 i a b (by simpa using ha) (by simpa using hb)
    · intro h
      exact ⟨h 0 x y rfl rfl, fun i a b ha hb => h (i + 1) a b (by simpa using ha) (by simpa using hb)⟩
theorem risN_false {S : FL} {i : Nat} {x y : List UInt8 × List UInt8} (hx : S[i]? = some x) (hy : S[i + 1]? = some y) (h : ltN x y = false) : risN S = false := by
  cases hr : risN S with
  | false => rfl
  | true => have := (risN_iff S).1 hr i x y hx hy; rw [h] at this; cases this
theorem risN_ok {S : FL} {i : Nat} (h : ∀ t x y, t + 1 < i → S[t]? = some x → S[t + 1]? = some y → ltN x y = true) (hi : S.length ≤ i) : risN S = true :=
  (risN_iff S).2 fun t x y hx hy => h t x y (by have := (List.getElem?_eq_some_iff.1 hy).1; omega) hx hy
end Go.Eng

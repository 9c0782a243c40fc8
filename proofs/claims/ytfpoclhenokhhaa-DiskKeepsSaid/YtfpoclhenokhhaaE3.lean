/-
  Engine, part 3: the operations of a region, one behind the other, and control between regions, computed.
-/
import Derived.Test.YtfpoclhenokhhaaE2
import Derived.Laws.StructEq
import Derived.ChangeKeysEq
namespace Go.Eng
open Go

def evs (env : Env) : List Operand → Option (List Value)
  | [] => some []
  | x :: l => match Env.ev env x with
    | some v => match evs env l with
      | some vs => some (v :: vs)
      | none => none
    | none => none

theorem evs_ok {env : Env} {ρ : Operand → Value} (hρ : Agree env ρ) : ∀ {l : List Operand} {vs : List Value}, evs env l = some vs → l.map ρ = vs
  | [], vs, h => by simp [evs] at h; simp [h]
  | x :: l, vs, h => by
    simp only [evs] at h
    split at h
    · rename_i v hv
      split at h
      · rename_i us hus
        cases h
        simp [hρ _ _ hv, evs_ok hρ hus]
      · cases h
    · cases h

def evo (env : Env) : Option Operand → Option (Option Value)
  | none => some none
  | some x => match Env.ev env x with
    | some v => some (some v)
    | none => none
theorem evo_ok {env : Env} {ρ : Operand → Value} (hρ : Agree env ρ) {x : Option Operand} {v : Option Value} (h : evo env x = some v) : x.map ρ = v := by
  cases x with
  | none => simp [evo] at h; simp [h]
  | some x =>
    simp only [evo] at h
    split at h
    · rename_i u hu; cases h; simp [hρ _ _ hu]
    · cases h

/-- One place of a list, replaced. -/
def setL {α : Type} : List α → Nat → α → List α
  | [], _, _ => []
  | x :: l, i, y => match i with
    | 0 => y :: l
    | i + 1 => x :: setL l i y
theorem setL_eq {α : Type} : ∀ (l : List α) (i : Nat) (y : α), setL l i y = l.set i y
  | [], i, y => by simp [setL]
  | x :: l, 0, y => by simp [setL]
  | x :: l, i + 1, y => by simp [setL, setL_eq l i y]

def putL {α : Type} : List α → Nat → List α → List α
  | l, _, [] => l
  | l, i, y :: ys => putL (setL l i y) (i + 1) ys

def forceL {α β : Type} : List α → (List α → β) → β
  | [], k => k []
  | x :: l, k => forceL l fun l' => k (x :: l')
theorem forceL_eq {α β : Type} : ∀ (l : List α) (k : List α → β), forceL l k = k l
  | [], k => rfl
  | x :: l, k => by simp [forceL, forceL_eq l]

/-- The cells of a value built of parts. -/
def pFill (place : Nat → Option (Nat × Nat)) : List Value → List (Nat × Value) → Option (List Value)
  | cs, [] => some cs
  | cs, (i, v) :: r => match place i with
    | none => none
    | some (off, sz) => match v with
      | .agg ⟨l⟩ => bif Nat.beq l.length sz && Nat.ble (off + l.length) cs.length then forceL (putL cs off l) fun cs => pFill place cs r else none
      | .tuple _ => none
      | v => bif Nat.beq 1 sz && Nat.ble (off + 1) cs.length then forceL (setL cs off v) fun cs => pFill place cs r else none

theorem foldl_putL (l : List Value) : ∀ (off : Nat) (cs : List Value) (j : Nat), (l.zipIdx j).foldl (fun (a : Array Value) (x : Value × Nat) => a.setIfInBounds (off + x.2) x.1) ⟨cs⟩ = ⟨putL cs (off + j) l⟩ := by
  induction l with
  | nil => intro off cs j; simp [putL]
  | cons x l ih =>
    intro off cs j
    simp only [List.zipIdx_cons, List.foldl_cons, putL]
    have e : (⟨cs⟩ : Array Value).setIfInBounds (off + j) x = ⟨setL cs (off + j) x⟩ := by simp [setL_eq]
    rw [e, ih off _ (j + 1)]; rfl

theorem pFill_ok {place : Nat → Option (Nat × Nat)} : ∀ {r : List (Nat × Value)} {cs out : List Value}, pFill place cs r = some out → Instr.fill place ⟨cs⟩ r = some ⟨out⟩
  | [], cs, out, h => by simp [pFill] at h; simp [Instr.fill, h]
  | (i, v) :: r, cs, out, h => by
    simp only [pFill] at h
    split at h
    · cases h
    · rename_i off sz hp
      split at h
      · rename_i l
        cases hb : (Nat.beq l.length sz && Nat.ble (off + l.length) cs.length) with
        | false => rw [hb] at h; cases h
        | true =>
          rw [hb] at h
          simp only [cond_true, forceL_eq] at h
          simp only [Bool.and_eq_true, Nat.beq_eq, Nat.ble_eq] at hb
          have ih := pFill_ok h
          have hf := foldl_putL l off cs 0
          simp only [Instr.fill, hp]
          rw [if_neg (by simp [Value.cells]; omega)]
          simp only [Value.cells]
          rw [← Array.foldl_toList]
          simp only [Array.toList_zipIdx]
          rw [hf]; exact ih
      · cases h
      · rename_i hna hnt
        cases hb : (Nat.beq 1 sz && Nat.ble (off + 1) cs.length) with
        | false => rw [hb] at h; cases h
        | true =>
          rw [hb] at h
          simp only [cond_true, forceL_eq] at h
          simp only [Bool.and_eq_true, Nat.beq_eq, Nat.ble_eq] at hb
          have ih := pFill_ok h
          have hc : v.cells = #[v] := by
            cases v <;> first | rfl | (rename_i c; exact (hna c.toList rfl).elim)
          simp only [Instr.fill, hp]
          rw [if_neg (by simp [hc]; omega)]
          simp only [hc]
          simp only [Array.zipIdx, List.mapIdx_toArray, List.mapIdx_cons, List.mapIdx_nil, List.foldl_toArray, List.foldl_cons, List.foldl_nil]
          simpa [setL_eq] using ih

/-- A value built of parts. -/
def pBuild (P : Program) (t : TypeId) (ps : List (Nat × Value)) : Option Value := match P.info? t with
  | some i => match i.zero with
    | some (.agg ⟨z⟩) => match P.underlying t with
      | some (.struct ⟨fs⟩) => match pFill (fun j => match nth fs j with
          | some f => match szT P f.type with
            | some n => some (f.offset, n)
            | none => none
          | none => none) z ps with
        | some cs => bif fs.all (fun f => (szT P f.type).isSome) then some (.agg ⟨cs⟩) else none
        | none => none
      | some (.array _ e) => match szT P e with
        | some n => match pFill (fun j => some (j * n, n)) z ps with
          | some cs => some (.agg ⟨cs⟩)
          | none => none
        | none => none
      | _ => none
    | _ => none
  | none => none

theorem run_mapM_places {P : Program} {w : World} : ∀ (fs : List Field), fs.all (fun f => (szT P f.type).isSome) = true →
    (fs.mapM (fun f => (do pure (f.offset, ← sizeOf f.type) : Sem (Nat × Nat)))).run P w = .ok (fs.map fun f => (f.offset, (szT P f.type).getD 0)) w
  | [], _ => by simp
  | f :: fs, h => by
    simp only [List.all_cons, Bool.and_eq_true] at h
    obtain ⟨n, hn⟩ := Option.isSome_iff_exists.1 h.1
    have ih := run_mapM_places (P := P) (w := w) fs h.2
    simp only [List.mapM_cons, Sem.run_bind, szT_ok hn, Result.andThen_ok, Sem.run_pure, ih, List.map_cons, hn, Option.getD_some]

theorem pBuild_ok {P : Program} {w : World} {t : TypeId} {ps : List (Nat × Value)} {v : Value} (h : pBuild P t ps = some v) : (Instr.build t ⟨ps⟩).run P w = .ok v w := by
  unfold pBuild at h
  split at h
  · rename_i i hi
    split at h
    · rename_i z hz
      have hzv : (zeroValue t).run P w = .ok (.agg ⟨z⟩) w := by simp [zeroValue, typeInfo, hi, hz]
      split at h
      · rename_i fs hu
        split at h
        · rename_i cs hcs
          cases hall : fs.all (fun f => (szT P f.type).isSome) with
          | false => rw [hall] at h; cases h
          | true =>
            rw [hall] at h
            cases h
            have hm := run_mapM_places (P := P) (w := w) fs hall
            have hfun : (fun j => (match nth fs j with
                | some f => match szT P f.type with
                  | some n => some (f.offset, n)
                  | none => none
                | none => none)) = (((fs.map fun f => (f.offset, (szT P f.type).getD 0)).toArray)[·]?) := by
              funext j
              rw [nth_eq]
              simp only [List.getElem?_toArray, List.getElem?_map]
              cases hf : fs[j]? with
              | none => rfl
              | some f =>
                have : (szT P f.type).isSome = true := by
                  have := List.all_eq_true.1 hall f (List.mem_of_getElem? hf)
                  exact this
                obtain ⟨n, hn⟩ := Option.isSome_iff_exists.1 this
                simp [hn]
            have hp := pFill_ok hcs
            rw [hfun] at hp
            simp only [Instr.build, Sem.run_bind, hzv, Result.andThen_ok, run_underlying hu, Value.cells, List.mapM_toArray, Sem.run_map, hm]
            simp only [hp]
            rfl
        · cases h
      · rename_i n e hu
        split at h
        · rename_i n hn
          split at h
          · rename_i cs hcs
            cases h
            have hp := pFill_ok hcs
            simp only [Instr.build, Sem.run_bind, hzv, Result.andThen_ok, run_underlying hu, Value.cells, szT_ok hn, hp]
            rfl
          · cases h
        · cases h
      · cases h
    · cases h
  · cases h

def evp (env : Env) : List (Nat × Operand) → Option (List (Nat × Value))
  | [] => some []
  | (i, x) :: l => match Env.ev env x with
    | some v => match evp env l with
      | some vs => some ((i, v) :: vs)
      | none => none
    | none => none
theorem evp_ok {env : Env} {ρ : Operand → Value} (hρ : Agree env ρ) : ∀ {l : List (Nat × Operand)} {vs : List (Nat × Value)}, evp env l = some vs → l.map (fun (i, x) => (i, ρ x)) = vs
  | [], vs, h => by simp [evp] at h; simp [h]
  | (i, x) :: l, vs, h => by
    simp only [evp] at h
    split at h
    · rename_i v hv
      split at h
      · rename_i us hus
        cases h
        have := evp_ok hρ hus
        simp [hρ _ _ hv, ← this]
      · cases h
    · cases h

def tt (v : Option Value) : Option (Value × Prop) := match v with
  | some v => some (v, True)
  | none => none

/-- Structs and arrays compared, part by part. -/
def pFs (P : Program) (eq : TypeId → Value → Value → Option Bool) (xs ys : List Value) : List Field → Option Bool
  | [] => some true
  | f :: fs => match pPart P f.type xs f.offset with
    | some a => match pPart P f.type ys f.offset with
      | some b => match eq f.type a b with
        | some r => match fs with
          | [] => some r
          | _ => match pFs P eq xs ys fs with
            | some q => some (r && q)
            | none => none
        | none => none
      | none => none
    | none => none
def pIs (P : Program) (eq : TypeId → Value → Value → Option Bool) (e n : Nat) (xs ys : List Value) : List Nat → Option Bool
  | [] => some true
  | i :: is => match pPart P e xs (i * n) with
    | some a => match pPart P e ys (i * n) with
      | some b => match eq e a b with
        | some r => match is with
          | [] => some r
          | _ => match pIs P eq e n xs ys is with
            | some q => some (r && q)
            | none => none
        | none => none
      | none => none
    | none => none
def pAgg (P : Program) : Nat → TypeId → Value → Value → Option Bool
  | 0, _, _, _ => none
  | d + 1, t, x, y => match P.underlying t with
    | some .bool => match x, y with
      | .bool a, .bool b => some (a == b)
      | _, _ => none
    | some (.int _) => match x, y with
      | .int k a, .int k' b => bif Nat.beq (kc k) (kc k') then some (decide (a = b)) else none
      | _, _ => none
    | some .string => match x, y with
      | .string a, .string b => some (decide (bl a = bl b))
      | _, _ => none
    | some (.struct ⟨fs⟩) => match x, y with
      | .agg ⟨xs⟩, .agg ⟨ys⟩ => pFs P (pAgg P d) xs ys fs
      | _, _ => none
    | some (.array n e) => match x, y with
      | .agg ⟨xs⟩, .agg ⟨ys⟩ => match szT P e with
        | some k => pIs P (pAgg P d) e k xs ys (List.range n)
        | none => none
      | _, _ => none
    | _ => none
/-- What is asked of the type. -/
def aggB (P : Program) : Nat → TypeId → Bool
  | 0, _ => false
  | d + 1, t => match P.underlying t with
    | some (.struct ⟨fs⟩) => !P.stoodInHeld t && fs.all fun f => f.name != "_" && aggB P d f.type
    | some (.array _ e) => aggB P d e
    | _ => true
structure AggOk (P : Program) (t : TypeId) : Prop where
  agg : aggB P 4 t = true
  grd : P.eqGuardType P.depth t = false

theorem cellsOf_szT {P : Program} {t : TypeId} {n : Nat} (h : szT P t = some n) : P.cellsOf t = n ∧ ∃ i, P.info? t = some i := by
  unfold szT at h
  cases hi : P.info? t with
  | none => rw [hi] at h; cases h
  | some i =>
    rw [hi] at h
    simp only [litN_eq, Option.some.injEq] at h
    exact ⟨by unfold Program.cellsOf; rw [hi]; exact h, i, rfl⟩

theorem pFs_ok {P : Program} {w : World} {D : Nat} {eq : TypeId → Value → Value → Option Bool} {xs ys : List Value} : ∀ (fs : List Field) (r : Bool), (∀ f, f ∈ fs → f.name ≠ "_" ∧ ∀ a b r, eq f.type a b = some r → (Op.equalIn D f.type a b).run P w = .ok r w) →
    pFs P eq xs ys fs = some r → (Op.eqFields D ⟨xs⟩ ⟨ys⟩ fs).run P w = .ok r w
  | [], r, _, h => by simp only [pFs, Option.some.injEq] at h; subst h; rfl
  | f :: fs, r, hf, h => by
    obtain ⟨hn, he⟩ := hf f (List.mem_cons_self ..)
    have ih := fun r => pFs_ok (P := P) (w := w) (D := D) (eq := eq) (xs := xs) (ys := ys) fs r (fun g hg => hf g (List.mem_cons_of_mem _ hg))
    simp only [pFs] at h
    split at h
    · rename_i a ha
      split at h
      · rename_i b hb
        split at h
        · rename_i q hq
          have h1 := he a b q hq
          have hrest : ∀ s, pFs P eq xs ys fs = some s → r = (q && s) → (Op.eqFields D ⟨xs⟩ ⟨ys⟩ (f :: fs)).run P w = .ok r w := by
            intro s hs hr
            have h2 := ih s hs
            simp only [Op.eqFields, ne_eq, hn, not_false_eq_true, if_true, Sem.run_bind, pPart_ok ha, pPart_ok hb, Result.andThen_ok, h1]
            subst hr
            cases q
            · simp
            · simp [h2]
          split at h
          · cases h; exact hrest true rfl (by simp)
          · split at h
            · rename_i s hs; cases h; exact hrest s hs rfl
            · cases h
        · cases h
      · cases h
    · cases h
theorem pIs_ok {P : Program} {w : World} {D e n : Nat} {eq : TypeId → Value → Value → Option Bool} {xs ys : List Value} (he : ∀ a b r, eq e a b = some r → (Op.equalIn D e a b).run P w = .ok r w) : ∀ (is : List Nat) (r : Bool),
    pIs P eq e n xs ys is = some r → (Op.eqItems D e n ⟨xs⟩ ⟨ys⟩ is).run P w = .ok r w
  | [], r, h => by simp only [pIs, Option.some.injEq] at h; subst h; rfl
  | i :: is, r, h => by
    have ih := fun r => pIs_ok (P := P) (w := w) (n := n) (xs := xs) (ys := ys) he is r
    simp only [pIs] at h
    split at h
    · rename_i a ha
      split at h
      · rename_i b hb
        split at h
        · rename_i q hq
          have h1 := he a b q hq
          have hrest : ∀ s, pIs P eq e n xs ys is = some s → r = (q && s) → (Op.eqItems D e n ⟨xs⟩ ⟨ys⟩ (i :: is)).run P w = .ok r w := by
            intro s hs hr
            have h2 := ih s hs
            simp only [Op.eqItems, Sem.run_bind, pPart_ok ha, pPart_ok hb, Result.andThen_ok, h1]
            subst hr
            cases q
            · simp
            · simp [h2]
          split at h
          · cases h; exact hrest true rfl (by simp)
          · split at h
            · rename_i s hs; cases h; exact hrest s hs rfl
            · cases h
        · cases h
      · cases h
    · cases h
theorem pAgg_ok {P : Program} {w : World} (D : Nat) : ∀ (d : Nat) (t : TypeId) (x y : Value) (r : Bool), pAgg P d t x y = some r → aggB P d t = true → (Op.equalIn (D + d) t x y).run P w = .ok r w
  | 0, t, x, y, r, h, _ => by simp [pAgg] at h
  | d + 1, t, x, y, r, h, hb => by
    have ih := pAgg_ok (P := P) (w := w) D d
    rw [show D + (d + 1) = (D + d) + 1 from rfl]
    simp only [pAgg] at h
    split at h
    · rename_i hu
      split at h
      · simp only [Option.some.injEq] at h; subst h
        simp [Op.equalIn, run_underlying hu]
      · cases h
    · rename_i hu
      split at h
      · rename_i k a k' b
        cases hk : Nat.beq (kc k) (kc k') with
        | false => rw [hk] at h; cases h
        | true =>
          rw [hk] at h
          simp only [cond_true, Option.some.injEq] at h; subst h
          have := kc_eq hk
          subst this
          simp only [Op.equalIn, Sem.run_bind, run_underlying hu, Result.andThen_ok, if_true, Sem.run_pure]
          congr 1
      · cases h
    · rename_i hu
      split at h
      · rename_i a b
        simp only [Option.some.injEq] at h; subst h
        simp only [Op.equalIn, Sem.run_bind, run_underlying hu, Result.andThen_ok, Sem.run_pure, beq_toListBytes, ByteArray.toList_eq]
        congr 1
        exact beq_list_decide _ _
      · cases h
    · rename_i fs hu
      split at h
      · rename_i xs ys
        unfold aggB at hb
        rw [hu] at hb
        simp only [Bool.and_eq_true, Bool.not_eq_true', List.all_eq_true, bne_iff_ne, ne_eq] at hb
        have hfo : P.fieldsOf t = ⟨fs⟩ := by unfold Program.fieldsOf; rw [hu]
        rw [run_equalIn_struct (P := P) (w := w) (D + d) t ⟨xs⟩ ⟨ys⟩ (by rw [hfo]; exact hu) hb.1, hfo]
        exact pFs_ok fs r (fun f hf => ⟨(hb.2 f hf).1, fun a b r hr => ih f.type a b r hr (hb.2 f hf).2⟩) h
      · cases h
    · rename_i n e hu
      split at h
      · rename_i xs ys
        split at h
        · rename_i k hk
          unfold aggB at hb
          rw [hu] at hb
          obtain ⟨hc, i, hi⟩ := cellsOf_szT hk
          rw [run_equalIn_array (P := P) (w := w) (D + d) ⟨xs⟩ ⟨ys⟩ hu hi, hc]
          exact pIs_ok (fun a b r hr => ih e a b r hr hb) _ r h
        · cases h
      · cases h
    · cases h

def pBin2 (P : Program) (nw : Bool) (op : BinOp) (t : TypeId) (x y : Value) : Option (Value × Prop) := match pBin P nw op t x y with
  | some r => some r
  | none => match x, y with
    | .agg ⟨xs⟩, .agg ⟨ys⟩ => match op with
      | .eql => match pAgg P 4 t (.agg ⟨xs⟩) (.agg ⟨ys⟩) with
        | some r => some (.bool r, AggOk P t)
        | none => none
      | .neq => match pAgg P 4 t (.agg ⟨xs⟩) (.agg ⟨ys⟩) with
        | some r => some (.bool (!r), AggOk P t)
        | none => none
      | _ => none
    | _, _ => none

/-- What an operation that leaves the world alone puts into its slot, and what is owed for that. -/
def pure1 (P : Program) (nw : Bool) (env : Env) : Op → Option (Value × Prop)
  | .move x => tt (Env.ev env x)
  | .assign x => tt (Env.ev env x)
  | .nilCheck x => match Env.ev env x with
    | some (.pointer (some a)) => some (.pointer (some a), True)
    | some (.func (.func f) u c) => some (.func (.func f) u c, True)
    | some (.func (.yield f) u c) => some (.func (.yield f) u c, True)
    | _ => none
  | .binOp op t x y _ => match Env.ev env x with
    | some a => match Env.ev env y with
      | some b => pBin2 P nw op t a b
      | none => none
    | none => none
  | .unOp op _ x => match Env.ev env x with
    | some a => pUn nw op a
    | none => none
  | .convert s d x => match Env.ev env x with
    | some a => pConv P nw s d a
    | none => none
  | .makeFunc f a b => match evs env a.toList with
    | some u => match evs env b.toList with
      | some v => some (.func f ⟨u⟩ ⟨v⟩, True)
      | none => none
    | none => none
  | .slice t x lo hi mx => match mx with
    | none => match Env.ev env x with
      | some a => match evo env lo with
        | some l => match evo env hi with
          | some h => pSlice P t a l h
          | none => none
        | none => none
      | none => none
    | some _ => none
  | .fieldAddr t x f => match Env.ev env x with
    | some a => tt (pFieldAddr P t a f)
    | none => none
  | .field t x f => match Env.ev env x with
    | some a => tt (pField P t a f)
    | none => none
  | .indexAddr t x i => match Env.ev env x with
    | some a => match Env.ev env i with
      | some j => pIndexAddr P t a j
      | none => none
    | none => none
  | .index t x i => match Env.ev env x with
    | some a => match Env.ev env i with
      | some j => pIndex P t a j
      | none => none
    | none => none
  | .extract x i => match Env.ev env x with
    | some (.tuple ⟨vs⟩) => tt (nth vs i)
    | _ => none
  | .build t ps => match evp env ps.toList with
    | some vs => tt (pBuild P t vs)
    | none => none
  | .call c => match c.callee with
    | .builtin .len => match c.args.toList with
      | [x] => match c.argTypes.toList with
        | [t] => match Env.ev env x with
          | some a => tt (pLen P t a)
          | none => none
        | _ => none
      | _ => none
    | .builtin .max => match evs env c.args.toList with
      | some [.int k a, .int _ b] => some (.int k (max a b), True)
      | _ => none
    | .builtin .min => match evs env c.args.toList with
      | some [.int k a, .int _ b] => some (.int k (min a b), True)
      | _ => none
    | _ => none
  | _ => none

theorem pBin_ok {P : Program} {w : World} {nw : Bool} {op : BinOp} {t : TypeId} {x y : Operand} {a b v : Value} {ob : Prop} (h : pBin P nw op t a b = some (v, ob)) (ho : ob) :
    (do eqGuard op t x y a b; binOp op t a b : Sem Value).run P w = .ok v w := by
  unfold pBin at h
  split at h
  · rename_i k a k' b
    rw [eqGuard_int]
    simp only [Sem.run_bind, Sem.run_pure, Result.andThen_ok]
    split at h
    · exact pShift_ok h ho
    · exact pShift_ok h ho
    · rename_i h1 h2
      cases hk : Nat.beq (kc k) (kc k') with
      | false => rw [hk] at h; cases h
      | true =>
        rw [hk] at h
        have := kc_eq hk
        subst this
        exact pInt_ok (fun e => h1 e) (fun e => h2 e) h ho
  · rename_i a b
    have : eqGuard op t x y (.string a) (.string b) = pure () := by cases op <;> rfl
    rw [this]
    simp only [Sem.run_bind, Sem.run_pure, Result.andThen_ok]
    exact pStr_ok h ho
  · rename_i hni hns
    split at h
    · split at h
      · rename_i c hc
        cases h
        have hr := pNil_ok (w := w) hc
        unfold pNil at hc
        split at hc <;> (try split at hc) <;> first
          | (cases hc; done)
          | (cases hc; simp [eqGuard, binOp, hr])
      · cases h
    · split at h
      · rename_i c hc
        cases h
        have hr := pNil_ok (w := w) hc
        unfold pNil at hc
        split at hc <;> (try split at hc) <;> first
          | (cases hc; done)
          | (cases hc; simp [eqGuard, binOp, hr])
      · cases h
    · cases h

theorem pBin2_ok {P : Program} {w : World} {nw : Bool} {op : BinOp} {t : TypeId} {x y : Operand} {a b v : Value} {ob : Prop} (h : pBin2 P nw op t a b = some (v, ob)) (ho : ob) :
    (do eqGuard op t x y a b; binOp op t a b : Sem Value).run P w = .ok v w := by
  unfold pBin2 at h
  split at h
  · rename_i r hr
    cases h
    exact pBin_ok hr ho
  · split at h
    · rename_i xs ys
      split at h
      · split at h
        · rename_i r hr
          simp only [Option.some.injEq, Prod.mk.injEq] at h
          obtain ⟨rfl, rfl⟩ := h
          have he := pAgg_ok (P := P) (w := w) 9996 4 t _ _ r hr ho.agg
          have hgd := ho.grd
          simp only [Sem.run_bind, eqGuard, run_program, hgd, Result.andThen_ok]
          simp [binOp, Op.equal, Sem.run_bind, he, Op.maxDepth, hgd]
        · cases h
      · split at h
        · rename_i r hr
          simp only [Option.some.injEq, Prod.mk.injEq] at h
          obtain ⟨rfl, rfl⟩ := h
          have he := pAgg_ok (P := P) (w := w) 9996 4 t _ _ r hr ho.agg
          have hgd := ho.grd
          simp only [Sem.run_bind, eqGuard, run_program, hgd, Result.andThen_ok]
          simp [binOp, Op.equal, Sem.run_bind, he, Op.maxDepth, hgd]
        · cases h
      · cases h
    · cases h

theorem tt_some {v : Option Value} {u : Value} {ob : Prop} (h : tt v = some (u, ob)) : v = some u := by
  cases v with
  | none => cases h
  | some v => simp only [tt, Option.some.injEq, Prod.mk.injEq] at h; rw [h.1]

theorem pure1_ok {P : Program} {w : World} {nw : Bool} {env : Env} {o : Oper} {v : Value} {ob : Prop} (h : pure1 P nw env o.op = some (v, ob)) (ho : ob) {ρ : Operand → Value} (hρ : Agree env ρ) :
    (execOp ρ o).run P w = .ok (.value v) w := by
  unfold execOp
  cases hop : o.op <;> rw [hop] at h <;> simp only [pure1, reduceCtorEq] at h
  case move x => simp [hρ _ _ (tt_some h)]
  case assign x => simp [hρ _ _ (tt_some h)]
  case nilCheck x =>
    split at h <;> simp only [Option.some.injEq, Prod.mk.injEq, reduceCtorEq] at h <;> obtain ⟨rfl, rfl⟩ := h <;> rename_i hx <;> simp [hρ _ _ hx]
  case binOp op t x y yt =>
    split at h
    · rename_i a ha
      split at h
      · rename_i b hb
        simp only [hρ _ _ ha, hρ _ _ hb]
        have := pBin2_ok (w := w) (x := x) (y := y) h ho
        simp only [Sem.run_bind] at this ⊢
        rw [this]; rfl
      · cases h
    · cases h
  case unOp op t x =>
    split at h
    · rename_i a ha
      simp [hρ _ _ ha, pUn_ok h ho]
    · cases h
  case convert s d x =>
    split at h
    · rename_i a ha
      simp [hρ _ _ ha, pConv_ok h ho]
    · cases h
  case makeFunc f a b =>
    split at h
    · rename_i u hu
      split at h
      · rename_i v hv
        simp only [Option.some.injEq, Prod.mk.injEq] at h
        obtain ⟨rfl, rfl⟩ := h
        have e1 : a.map ρ = ⟨u⟩ := by apply Array.ext'; simp [evs_ok hρ hu]
        have e2 : b.map ρ = ⟨v⟩ := by apply Array.ext'; simp [evs_ok hρ hv]
        simp [Instr.makeFunc, e1, e2]
      · cases h
    · cases h
  case slice t x lo hi mx =>
    split at h
    · split at h
      · rename_i a ha
        split at h
        · rename_i l hl
          split at h
          · rename_i hh hhi
            simp [hρ _ _ ha, evo_ok hρ hl, evo_ok hρ hhi, pSlice_ok h ho]
          · cases h
        · cases h
      · cases h
    · cases h
  case fieldAddr t x f =>
    split at h
    · rename_i a ha
      simp [hρ _ _ ha, pFieldAddr_ok (tt_some h)]
    · cases h
  case field t x f =>
    split at h
    · rename_i a ha
      simp [hρ _ _ ha, pField_ok (tt_some h)]
    · cases h
  case indexAddr t x i =>
    split at h
    · rename_i a ha
      split at h
      · rename_i j hj
        simp [hρ _ _ ha, hρ _ _ hj, pIndexAddr_ok h ho]
      · cases h
    · cases h
  case index t x i =>
    split at h
    · rename_i a ha
      split at h
      · rename_i j hj
        simp [hρ _ _ ha, hρ _ _ hj, pIndex_ok h ho]
      · cases h
    · cases h
  case extract x i =>
    split at h
    · rename_i vs hvs
      have := tt_some h
      rw [nth_eq] at this
      simp [hρ _ _ hvs, Instr.extract, this]
    · cases h
  case build t ps =>
    split at h
    · rename_i vs hvs
      have e : ps.map (fun (i, x) => (i, ρ x)) = ⟨vs⟩ := by apply Array.ext'; simpa using evp_ok hρ hvs
      simp [e, pBuild_ok (tt_some h)]
    · cases h
  case call c =>
    split at h
    · rename_i hc
      split at h
      · rename_i x hx
        split at h
        · rename_i t ht
          split at h
          · rename_i a ha
            have e1 : c.args.map ρ = #[a] := by apply Array.ext'; simp [hx, hρ _ _ ha]
            have e2 : c.argTypes = #[t] := by apply Array.ext'; simp [ht]
            simp [resolve, hc, invoke, builtin, e1, e2, pLen_ok (tt_some h)]
          · cases h
        · cases h
      · cases h
    · rename_i hc
      split at h
      · rename_i k a k' b hx
        simp only [Option.some.injEq, Prod.mk.injEq] at h
        obtain ⟨rfl, -⟩ := h
        have e1 : c.args.map ρ = #[.int k a, .int k' b] := by apply Array.ext'; simpa using evs_ok hρ hx
        have e2 : (if b > a then b else a) = max a b := by split <;> omega
        simp [resolve, hc, invoke, builtin, e1, Builtin.max_, Builtin.max2, e2]
      · cases h
    · rename_i hc
      split at h
      · rename_i k a k' b hx
        simp only [Option.some.injEq, Prod.mk.injEq] at h
        obtain ⟨rfl, -⟩ := h
        have e1 : c.args.map ρ = #[.int k a, .int k' b] := by apply Array.ext'; simpa using evs_ok hρ hx
        have e2 : (if b < a then b else a) = min a b := by split <;> omega
        simp [resolve, hc, invoke, builtin, e1, Builtin.min_, Builtin.min2, e2]
      · cases h
    · cases h
end Go.Eng

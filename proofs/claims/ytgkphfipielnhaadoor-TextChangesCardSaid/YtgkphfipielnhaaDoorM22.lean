/-
  Engine, part 54: pointers as unsafe pointers and back; a pointer compared with itself; the array of a slice.
-/
import Derived.Test.YtgkphfipielnhaaDoorM21
import Derived.Lib.Builder
import Derived.LaidEqlPtr
/-
  Engine, part 54: pointers as unsafe pointers and back; a pointer compared with itself; the array of a slice.
-/
namespace Go.Eng
open Go

section
variable {C : Ctx} {env : Env} {bx : Bx} {hp : List Seg} {S : Base} {o : Oper} {K : Value → Bx → List Seg → Prop}
theorem shape_blk {w : World} {b : Nat} {t : TypeId} {cs : List Value} (h : w.heap[b]? = some (.cells cs.toArray t (0, 0))) : w.shape? b = some (t, cs.length) := by
  unfold World.shape?; rw [h]; simp
def szB (P : Program) (t : TypeId) : Bool := match P.info? t with
  | some i => !Nat.beq i.size 0
  | none => false
theorem szB_ok {P : Program} {t : TypeId} (h : szB P t = true) : ∃ j, P.info? t = some j ∧ j.size ≠ 0 := by
  unfold szB at h
  split at h
  · rename_i i hi
    exact ⟨i, hi, fun e => by rw [e] at h; simp at h⟩
  · cases h
/-- The address of a known block, as an unsafe pointer. -/
theorem OpOk.toUnsafe {s d t : TypeId} {x : Operand} {b : Nat} {tb : TypeId} {cs : List Value} (i : Nat) (ho : o.op = .convert s d x) (hx : Env.ev env x = some (.pointer (some ⟨b, 0, none⟩))) (hi : nth bx i = some (b, tb, cs)) (hs : C.P.underlying s = some (.pointer t)) (hd : C.P.underlying d = some .unsafePointer)
    (ht : szB C.P t = true) (hc : 0 < cs.length) (hK : K (.pointer (some ⟨b, 0, none⟩)) bx hp) : OpOk C o env bx hp S K := by
  intro w hw ρ hρ
  refine .inl ⟨_, w, bx, hp, .inl ?_, hw, hK⟩
  have hb := hw.bx _ (nth_mem hi)
  obtain ⟨j, ht, hj⟩ := szB_ok ht
  have := Lib.run_to_unsafe (P := C.P) (w := w) ⟨b, 0, none⟩ hs hd ht hj (shape_blk hb) hc
  simp only [execOp, ho, hρ _ _ hx]
  simp [this, Result.andThen]
/-- And back. -/
theorem OpOk.ofUnsafe {s d u : TypeId} {x : Operand} {b : Nat} {tb : TypeId} {cs : List Value} (i : Nat) (ho : o.op = .convert s d x) (hx : Env.ev env x = some (.pointer (some ⟨b, 0, none⟩))) (hi : nth bx i = some (b, tb, cs)) (hs : C.P.underlying s = some .unsafePointer) (hd : C.P.underlying d = some (.pointer u))
    (hu : szB C.P u = true) (hl : liesAt C.P C.P.depth tb (cs.length / C.P.cellsOf tb) 0 u 1 = true) (hK : K (.pointer (some ⟨b, 0, none⟩)) bx hp) : OpOk C o env bx hp S K := by
  intro w hw ρ hρ
  refine .inl ⟨_, w, bx, hp, .inl ?_, hw, hK⟩
  have hb := hw.bx _ (nth_mem hi)
  obtain ⟨j, hu, -⟩ := szB_ok hu
  have := Lib.run_from_unsafe (P := C.P) (w := w) ⟨b, 0, none⟩ hs hd hu (shape_blk hb) hl
  simp only [execOp, ho, hρ _ _ hx]
  simp [this, Result.andThen]
theorem run_eqPtr {P : Program} {w : World} {tp te : TypeId} {j : TypeInfo} (a : Addr) (hp : P.underlying tp = some (.pointer te)) (hte : P.info? te = some j) : (Op.equal tp (.pointer (some a)) (.pointer (some a))).run P w = .ok true w := by
  have h : ∀ d : Nat, (Op.equalIn (d + 1) tp (.pointer (some a)) (.pointer (some a))).run P w = .ok true w := fun d => by
    simp [Op.equalIn, run_underlying hp, sizeOf, typeInfo, hte, run_sameAddr_same]
  exact h 9999
/-- A pointer isn't another one than itself. -/
theorem OpOk.neqSelf {t t2 te : TypeId} {x y : Operand} {a : Addr} (ho : o.op = .binOp .neq t x y t2) (hx : Env.ev env x = some (.pointer (some a))) (hy : Env.ev env y = some (.pointer (some a))) (hp' : C.P.underlying t = some (.pointer te)) (hte : szB C.P te = true) (hK : K (.bool false) bx hp) : OpOk C o env bx hp S K := by
  intro w hw ρ hρ
  refine .inl ⟨_, w, bx, hp, .inl ?_, hw, hK⟩
  obtain ⟨j, hte, -⟩ := szB_ok hte
  have he := run_eqPtr (P := C.P) (w := w) a hp' hte
  simp only [execOp, ho, hρ _ _ hx, hρ _ _ hy]
  simp [eqGuard, binOp, he, Result.andThen]
/-- unsafe.SliceData: the array's address. -/
theorem OpOk.sliceData {ts : List TypeId} {b off n c : Nat} (ho : bltOf env o.op = some (.unsafeSliceData, ts, [.slice (some ⟨b, off, none⟩) n c])) (hc : 0 < c) (hK : K (.pointer (some ⟨b, off, none⟩)) bx hp) : OpOk C o env bx hp S K := by
  intro w hw ρ hρ
  obtain ⟨cs, ty, hex⟩ := bltOf_ok (P := C.P) (w := w) ho hρ
  refine .inl ⟨_, w, bx, hp, .inl ?_, hw, hK⟩
  have := Lib.run_unsafeSliceData_row (P := C.P) w ⟨ts⟩ ty ⟨b, off, none⟩ n c (by omega)
  rw [hex]
  simp only [builtin, Sem.run_bind]
  exact (by rw [show (⟨[Value.slice (some ⟨b, off, none⟩) n c]⟩ : Array Value) = #[.slice (some ⟨b, off, none⟩) n c] from rfl, this]; rfl)
theorem OpOk.sliceDataNil {ts : List TypeId} {n c : Nat} (ho : bltOf env o.op = some (.unsafeSliceData, ts, [.slice none n c])) (hK : K (.pointer none) bx hp) : OpOk C o env bx hp S K := by
  intro w hw ρ hρ
  obtain ⟨cs, ty, hex⟩ := bltOf_ok (P := C.P) (w := w) ho hρ
  refine .inl ⟨_, w, bx, hp, .inl ?_, hw, hK⟩
  have := Lib.run_unsafeSliceData_nil (P := C.P) w ⟨ts⟩ ty n c
  rw [hex]
  simp only [builtin, Sem.run_bind]
  exact (by rw [show (⟨[Value.slice none n c]⟩ : Array Value) = #[.slice none n c] from rfl, this]; rfl)
theorem OpOk.unsafeStr0 {pt it : TypeId} {p : Option Addr} (ho : bltOf env o.op = some (.unsafeString, [pt, it], [.pointer p, .int .i64 0])) (hK : K (str []) bx hp) : OpOk C o env bx hp S K := by
  intro w hw ρ hρ
  obtain ⟨cs, ty, hex⟩ := bltOf_ok (P := C.P) (w := w) ho hρ
  refine .inl ⟨_, w, bx, hp, .inl ?_, hw, hK⟩
  have := Lib.run_unsafeString_none (P := C.P) w pt it ty p
  rw [hex]
  simp only [builtin, Sem.run_bind]
  exact (by rw [show (⟨[Value.pointer p, .int .i64 0]⟩ : Array Value) = #[.pointer p, .int .i64 0] from rfl, show (⟨[pt, it]⟩ : Array TypeId) = #[pt, it] from rfl, this]; rfl)
end
end Go.Eng

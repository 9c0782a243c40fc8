/-
  Engine, part 50: interface values compared; a string made of a row.
-/
import Derived.Test.YtgkphfipielnhaaDoorM17
import Derived.Test.YtgkphfipielnhaaDoorM19
import Derived.Test.YtgkphfipielnhaaDoorM20
import Derived.Lib.UnsafeStr
import Derived.Lib.ConvBytes
/-
  Engine, part 50: interface values compared; a string made of a row.
-/
namespace Go.Eng
open Go

section
variable {P : Program} {w : World} {t : TypeId}
theorem run_eqIf_nn {ms : _} (d : Nat) (h : P.underlying t = some (.interface ms)) : (Op.equalIn (d + 1) t .nilIface .nilIface).run P w = .ok true w := by
  simp [Op.equalIn, Sem.run_bind, run_underlying h, Result.andThen]
theorem run_eqIf_in {ms : _} (d : Nat) (T : TypeId) (u : Value) (h : P.underlying t = some (.interface ms)) : (Op.equalIn (d + 1) t (.iface T u) .nilIface).run P w = .ok false w := by
  simp [Op.equalIn, Sem.run_bind, run_underlying h, Result.andThen]
theorem run_eqIf_int {ms : _} (d : Nat) {T : TypeId} {k : IntKind} {a b : Int} {i : TypeInfo} (h : P.underlying t = some (.interface ms)) (hi : P.info? T = some i) (hc : i.comparable = true) (hT : P.underlying T = some (.int k)) :
    (Op.equalIn (d + 2) t (.iface T (.int k a)) (.iface T (.int k b))).run P w = .ok (a == b) w := by
  have h1 : (Op.equalIn (d + 1) T (.int k a) (.int k b)).run P w = .ok (a == b) w := run_equalIn_int w d T k k a b hT
  rw [Op.equalIn]
  simp [Sem.run_bind, run_underlying h, Result.andThen, typeInfo, hi, hc, h1]
end

/-- An interface value, compared with nil. -/
theorem OpOk.neqNil {C : Ctx} {env : Env} {bx : Bx} {hp : List Seg} {S : Base} {o : Oper} {K : Value → Bx → List Seg → Prop} {t t2 : TypeId} {x : Operand} {V : Value} {b : Bool} {ms : _}
    (ho : o.op = .binOp .neq t x (.const .nilIface) t2) (hx : Env.ev env x = some V) (hu : C.P.underlying t = some (.interface ms)) (hV : V = .nilIface ∧ b = false ∨ (∃ T u, V = .iface T u) ∧ b = true) (hK : K (.bool b) bx hp) : OpOk C o env bx hp S K := by
  intro w hw ρ hρ
  have hc : ρ (.const .nilIface) = .nilIface := hρ _ _ rfl
  refine .inl ⟨.bool b, w, bx, hp, .inl ?_, hw, hK⟩
  simp only [execOp, ho, hρ _ _ hx, hc]
  rcases hV with ⟨rfl, rfl⟩ | ⟨⟨T, u, rfl⟩, rfl⟩
  · have he : (Op.equal t .nilIface .nilIface).run C.P w = .ok true w := run_eqIf_nn 9999 hu
    cases x <;> simp [eqGuard, binOp, he, Result.andThen]
  · have he : (Op.equal t (.iface T u) .nilIface).run C.P w = .ok false w := run_eqIf_in 9999 T u hu
    simp [eqGuard, binOp, he, Result.andThen]
/-- Two interface values that hold integers of one type. -/
theorem OpOk.eqIfInt {C : Ctx} {env : Env} {bx : Bx} {hp : List Seg} {S : Base} {o : Oper} {K : Value → Bx → List Seg → Prop} {t t2 T : TypeId} {x y : Operand} {k : IntKind} {a b : Int} {i : TypeInfo} {ms : _}
    (ho : o.op = .binOp .eql t x y t2) (hx : Env.ev env x = some (.iface T (.int k a))) (hy : Env.ev env y = some (.iface T (.int k b))) (hu : C.P.underlying t = some (.interface ms)) (hi : C.P.info? T = some i) (hc : i.comparable = true) (hT : C.P.underlying T = some (.int k)) (hK : K (.bool (a == b)) bx hp) : OpOk C o env bx hp S K := by
  intro w hw ρ hρ
  refine .inl ⟨.bool (a == b), w, bx, hp, .inl ?_, hw, hK⟩
  have he : (Op.equal t (.iface T (.int k a)) (.iface T (.int k b))).run C.P w = .ok (a == b) w := run_eqIf_int 9998 hu hi hc hT
  simp only [execOp, ho, hρ _ _ hx, hρ _ _ hy]
  simp [eqGuard, binOp, he, Result.andThen]

/-- A value of a type as an interface value. -/
theorem OpOk.makeIface {C : Ctx} {env : Env} {bx : Bx} {hp : List Seg} {S : Base} {o : Oper} {K : Value → Bx → List Seg → Prop} {t : TypeId} {x : Operand} {v : Value} {d : TypeDesc}
    (ho : o.op = .makeInterface t x) (hx : Env.ev env x = some v) (ht : C.P.underlying t = some d) (hd : (match d with | .interface _ => false | _ => true) = true) (hK : K (.iface t v) bx hp) : OpOk C o env bx hp S K := by
  intro w hw ρ hρ
  refine .inl ⟨.iface t v, w, bx, hp, .inl ?_, hw, hK⟩
  simp only [execOp, ho, hρ _ _ hx]
  cases d <;> first | (simp at hd; done) | simp [Instr.makeInterface, Sem.run_bind, run_underlying ht, Result.andThen]

/-- Blocks of which nothing is said any more. -/
def Seg.none : Seg where
  keys := []
  ok _ := True
  loc _ _ _ _ := trivial
theorem ext_freeze (w : World) (g o n : Nat) : Ext [g] w (w.freeze ⟨g, o, none⟩ n) := by
  unfold World.freeze
  split
  · exact Ext.refl _ _
  · refine ⟨rfl, rfl, rfl, Nat.le_refl _, by simp, fun k hk hm => ?_⟩
    have hne : g ≠ k := fun e => hm (by simp [e])
    simp [Array.getElem?_modify, hne]
/-- unsafe.String of a whole row of bytes: nothing is said of the row any more. -/
theorem OpOk.unsafeStr {C : Ctx} {env : Env} {bx : Bx} {hp : List Seg} {S : Base} {o : Oper} {K : Value → Bx → List Seg → Prop} {pt it e : TypeId} {g n cap : Nat} {l : List UInt8}
    (ho : bltOf env o.op = some (.unsafeString, [pt, it], [.pointer (some ⟨g, 0, none⟩), .int .i64 n])) (hp0 : C.P.underlying pt = some (.pointer e)) (hc : C.P.cellsOf e = 1) (h0 : l ≠ []) (hn : l.length = n) (h63 : n ≤ 9223372036854775807)
    (hk : K (str l) bx hp) : OpOk C o env bx (Seg.row (some g) e 1 n cap (u8s l) :: hp) S K := by
  intro w hw ρ hρ
  obtain ⟨cs, ty, hex⟩ := bltOf_ok (P := C.P) (w := w) ho hρ
  subst hn
  have hrow : rowOk w (some g) e 1 l.length cap (u8s l) := hw.hp _ (List.mem_cons_self ..)
  obtain ⟨cur, fr, h1, h2, h3, h4⟩ := hrow.blk g rfl
  have hle := hrow.le
  have hr := Lib.run_unsafeString_row (P := C.P) w pt it ty e hp0 hc g cur.size (by unfold World.shape?; rw [h1]) l h0 (by rw [h2]; omega) h63 (fun j x hx => by
    rw [Addr.add_lit, Nat.zero_add]
    have hu : (u8s l)[j]? = some (.int .u8 (x.toNat : Int)) := by simp [u8s, hx]
    exact hrow.cell hu)
  have hset := hw.setSeg (j := 0) (s := Seg.row (some g) e 1 l.length cap (u8s l)) (s' := Seg.none) (w' := w.freeze ⟨g, 0, none⟩ l.length) rfl (by simpa [Seg.row] using ext_freeze w g 0 l.length) trivial (by simp [Seg.none]) (fun k hk => by simp [Seg.none] at hk)
  refine .inl ⟨str l, _, bx, hp, .inl ?_, hset.dropH, hk⟩
  rw [hex]
  simp only [builtin, Sem.run_bind, hr, Result.andThen_ok, Sem.run_pure]
  rfl
theorem Fun.ofExt {P : Program} {f : FuncId} {fn : Func} {args : List Value} {w : World} {V : Value} (h1 : P.funcs[f]? = some fn) (h : Calls P f ⟨args⟩ w fun e w' => e = .returned V ∧ Ext [] w w') (h2 : fn.body.isSome = true := by rfl) (h3 : (fn.name == "runtime.NumGoroutine") = false := by decide) : Fun P f args w V := by
  refine Tri.mk ⟨fn, h1, h2, h3⟩ (h.mono ?_)
  rintro e w' ⟨rfl, he⟩
  exact ⟨V, [], [], rfl, ⟨rfl, rfl, rfl⟩, he, ⟨by simp [kys], by simp [kys], by simp, by simp⟩, by simp [kys]⟩
theorem ext_bytes (w : World) (e : TypeId) (s : ByteArray) : Ext [] w (Lib.bytesWorld w e s) := by
  unfold Lib.bytesWorld
  have h1 : Ext [] w (w.drew.alloc (.cells (Lib.bytesCells w e s) e)) := ⟨rfl, rfl, rfl, Nat.le_succ _, by simp, fun k hk _ => RowKit.Below.heap_alloc w.drew _ k hk⟩
  exact h1.then (m2 := [w.heap.size]) (ext_freeze _ _ _ _) (fun i hi => .inr (by rw [List.mem_singleton] at hi; omega))
end Go.Eng

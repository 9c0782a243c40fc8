/-
  Engine, part 12: pairs compared.
-/
import Derived.Test.YtfpoclhenokhhaaE11
import Derived.ChangeKeysEq
namespace Go.Eng
open Go

theorem run_eqPair {P : Program} {w : World} {t e : TypeId} {k : IntKind} {i : TypeInfo} {a b c d : Int} (hu : P.underlying t = some (.array 2 e)) (hi : P.info? e = some i) (hs : P.cellsOf e = 1) (hk : P.underlying e = some (.int k)) :
    (Op.equalIn 10000 t (.agg #[.int k a, .int k b]) (.agg #[.int k c, .int k d])).run P w = .ok (decide (a = c) && decide (b = d)) w := by
  rw [show (10000 : Nat) = 9999 + 1 from rfl, run_equalIn_array w 9999 _ _ hu hi, hs]
  have hp0 : ∀ (u v : Value), (part e #[u, v] (0 * 1)).run P w = .ok u w := by
    intro u v; simp [part, isAgg, Sem.run_bind, run_underlying hk]
  have hp1 : ∀ (u v : Value), (part e #[u, v] 1).run P w = .ok v w := by
    intro u v; simp [part, isAgg, Sem.run_bind, run_underlying hk]
  have h0 : ∀ x y : Int, (Op.equalIn 9999 e (.int k x) (.int k y)).run P w = .ok (x == y) w := fun x y => run_equalIn_int w 9998 e k k x y hk
  simp only [show List.range 2 = [0, 1] from rfl, Op.eqItems, Sem.run_bind, hp0, hp1, Result.andThen_ok, h0]
  by_cases h1 : a = c <;> by_cases h2 : b = d <;> simp [h1, h2, hp1, h0]

theorem OpOk.eqPair {C : Ctx} {env : Env} {bx : Bx} {hp : List Seg} {S : Base} {o : Oper} {K : Value → Bx → List Seg → Prop} {t t2 e : TypeId} {x y : Operand} {k : IntKind} {i : TypeInfo} {a b c d : Int}
    (ho : o.op = .binOp .eql t x y t2) (hu : C.P.underlying t = some (.array 2 e)) (hi : C.P.info? e = some i) (hs : C.P.cellsOf e = 1) (hk : C.P.underlying e = some (.int k)) (hgd : C.P.eqGuardType C.P.depth t = false)
    (hx : Env.ev env x = some (.agg ⟨[.int k a, .int k b]⟩)) (hy : Env.ev env y = some (.agg ⟨[.int k c, .int k d]⟩))
    (h : K (.bool (decide (a = c) && decide (b = d))) bx hp) : OpOk C o env bx hp S K := by
  intro w hw ρ hρ
  refine .inl ⟨_, w, bx, hp, .inl ?_, hw, h⟩
  have he := run_eqPair (P := C.P) (w := w) (a := a) (b := b) (c := c) (d := d) hu hi hs hk
  simp only [execOp, ho, hρ _ _ hx, hρ _ _ hy, Sem.run_bind, eqGuard, run_program, hgd, Result.andThen_ok]
  simp [binOp, Op.equal, Sem.run_bind, he, Op.maxDepth, hgd]
end Go.Eng

/-
  Engine, part 36: what is owed, by the usual ways; numbers as cells.
-/
import Derived.Test.YtibdpdlghibijaaGreatDoorMP2
import Derived.KernelRfl
namespace Go.Eng
open Go
def i64s (xs:List Int):List Value:=xs.map (Value.int .i64)
theorem i64s_get {xs:List Int}{j:Nat}{x:Int}(h:xs[j]?=some x):(i64s xs)[j]?=some (.int .i64 x):=by simp [i64s,h]
theorem i64s_len (xs:List Int):(i64s xs).length=xs.length:=by simp [i64s]
theorem oK {p:Prop}(h:p:=by (repeat' apply And.intro) <;> first | exact True.intro | with_reducible assumption | omega | (simp only [inK]; omega) | (simp only [decide_eq_true_eq,decide_eq_false_iff_not]; first | with_reducible assumption | omega) | assumption | rfl | (simp; done) | (simp; omega) | (simp [Value.oneCell']; done) | exact i64s_one _ | exact AggOk.mk (by kernel_rfl) (by kernel_rfl)):p:=h
end Go.Eng

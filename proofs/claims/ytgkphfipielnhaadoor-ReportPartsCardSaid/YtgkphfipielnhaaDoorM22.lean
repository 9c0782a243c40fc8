/-
  Walks of layers 6 and 28: a code's reason; the text of the example.
-/
import Derived.Test.YtgkphfipielnhaaDoorM16
import Derived.Test.YtgkphfipielnhaaDoorM15
import Derived.Test.YtgkphfipielnhaaDoorM7
import Derived.Test.YtgkphfipielnhaaDoorM20
import Derived.Test.YtgkphfipielnhaaDoorM21
/-
  Walks of layers 6 and 28: a code's reason; the text of the example.
-/
namespace Go.Proofs
open Go Go.Eng
set_option maxRecDepth 100000
set_option maxHeartbeats 4000000
attribute [local irreducible] Tri

/-- The reasons, by their codes. -/
def reasonT : List (List UInt8) := [[97, 99, 99, 101, 112, 116], [107, 105, 110, 100], [118, 97, 108, 117, 101], [110, 111, 32, 97, 99, 99, 111, 117, 110, 116], [97, 99, 99, 111, 117, 110, 116, 32, 116, 104, 101, 114, 101], [111, 114, 100, 101, 114, 32, 116, 104, 101, 114, 101], [110, 111, 32, 111, 114, 100, 101, 114], [110, 111, 32, 112, 114, 105, 99, 101], [102, 117, 108, 108], [111, 114, 100, 101, 114, 32, 116, 111, 111, 32, 103, 114, 101, 97, 116], [112, 111, 115, 105, 116, 105, 111, 110, 32, 116, 111, 111, 32, 103, 114, 101, 97, 116], [109, 97, 114, 103, 105, 110], [111, 118, 101, 114, 102, 108, 111, 119], [117, 110, 97, 118, 97, 105, 108, 97, 98, 108, 101]]
/-- The table of reasons lies in its variable. -/
def Tryd.Rsn (W : World) : Prop := SlOk W (some ⟨2, 0, none⟩) (reasonT.map str)
theorem Tryd.reason_w (k : Nat) (s : List UInt8) (w : World) (hs : reasonT[k]? = some s) (hW : Tryd.Rsn w) :
    Fun Tryd.prog 68 [.int .i64 k] w (str s) := by
  refine Tri.enter (bx := []) (hp := []) Tryd.func68 rfl (by kernel_rfl) rfl (Own.nil w) ?_
  have hk : k < 14 := (List.getElem?_eq_some_iff.1 hs).1
  obtain ⟨g, o, he, hc⟩ := hW.get (by simp [reasonT])
  injection he with he
  injection he with e1 e2 e3
  subst e1; subst e2
  have r : ∀ {bx : Bx} {hp : List Seg}, RdW ⟨w, kys [] []⟩ bx hp 2 (0 + (k : Int).toNat * 1) [str s] := fun {_ _} => RdW.base1 (by simp [kys]) (hc _ _ (by rw [Int.toNat_natCast, List.getElem?_map]; simp [hs]))
  refine At.go [false, false] [hR [.string { data := s.toArray }]] rfl (by and_intros <;> first | exact r | exact oK) ?_
  refine At.rt [] [] [] Tryd.func68 ?_
  exact ⟨rfl, rfl, rfl⟩
theorem itoa1 : Lib.decDigits 1 = [49] := by rw [Lib.decDigits]; rfl
theorem itoa2 : Lib.decDigits 2 = [50] := by rw [Lib.decDigits]; rfl
/-- The pairs of the example. -/
def exL : List (List Int) := [[4, 0, 7, 3, 0, 0, 0, 0, 0], [5, 0, 7, 0, 0, 2, 5, 0, 0], [0, 0, 0, 0, 0, 0, 0, 1, 0]]
theorem exL_cd : cdC exL 3 = [.int .i64 2, .int .i64 1, .int .i64 0, .int .i64 0, .int .i64 0, .int .i64 0, .int .i64 0, .int .i64 0, .int .i64 0, .int .i64 0, .int .i64 0, .int .i64 0, .int .i64 0, .int .i64 0] := by rfl
theorem Tryd.textEx_w (a : Option Addr) (c : Nat) (w : World) (ha : SlOk w a (exL.flatMap i64s)) (hW : Tryd.Rsn w) :
    Fun Tryd.prog 35 [.slice a 3 c] w (str [97, 99, 99, 101, 112, 116, 32, 50, 10, 107, 105, 110, 100, 32, 49, 10]) := by
  refine Tri.enter (bx := []) (hp := []) Tryd.func35 rfl (by kernel_rfl) rfl (Own.nil w) ?_
  have hK : ∀ {bx : Bx} {hp : List Seg}, CallOb Tryd.prog ⟨w, kys [] []⟩ bx hp 13 [.slice a 3 c] (.agg ⟨[.int .i64 2, .int .i64 1, .int .i64 0, .int .i64 0, .int .i64 0, .int .i64 0, .int .i64 0, .int .i64 0, .int .i64 0, .int .i64 0, .int .i64 0, .int .i64 0, .int .i64 0, .int .i64 0]⟩) := fun {_ _} w' hw' => by
    have := Tryd.codes_w exL a c w' (by decide) (by decide) (ha.ext hw'.ext (by simp [kys]))
    rw [show exL.length = 3 from rfl, exL_cd] at this; exact this
  have hR0 : ∀ {bx : Bx} {hp : List Seg}, CallOb Tryd.prog ⟨w, kys [] []⟩ bx hp 68 [.int .i64 0] (str [97, 99, 99, 101, 112, 116]) := fun {_ _} w' hw' => Tryd.reason_w 0 _ w' rfl (hW.ext hw'.ext (by simp [kys]))
  have hR1 : ∀ {bx : Bx} {hp : List Seg}, CallOb Tryd.prog ⟨w, kys [] []⟩ bx hp 68 [.int .i64 1] (str [107, 105, 110, 100]) := fun {_ _} w' hw' => Tryd.reason_w 1 _ w' rfl (hW.ext hw'.ext (by simp [kys]))
  have hI1 : ∀ {bx : Bx} {hp : List Seg}, CallOb Tryd.prog ⟨w, kys [] []⟩ bx hp 69 [.int .i64 1] (str [49]) := fun {_ _} w' hw' => by
    have := Fun.of Tryd.func69 (Tryd.strconv_Itoa_small 1 (by decide) w')
    rw [itoa1] at this; exact this
  have hI2 : ∀ {bx : Bx} {hp : List Seg}, CallOb Tryd.prog ⟨w, kys [] []⟩ bx hp 69 [.int .i64 2] (str [50]) := fun {_ _} w' hw' => by
    have := Fun.of Tryd.func69 (Tryd.strconv_Itoa_small 2 (by decide) w')
    rw [itoa2] at this; exact this
  refine At.go [] [hC (.agg ⟨[.int .i64 2, .int .i64 1, .int .i64 0, .int .i64 0, .int .i64 0, .int .i64 0, .int .i64 0, .int .i64 0, .int .i64 0, .int .i64 0, .int .i64 0, .int .i64 0, .int .i64 0, .int .i64 0]⟩)] rfl (by and_intros <;> first | exact hK | exact oK) ?_
  refine At.unr ?_
  refine At.go [true] [] rfl oK ?_
  refine At.step [] rfl rfl rfl rfl rfl trivial (OpOk.indexArr 0 (v := .int .i64 2) rfl rfl rfl rfl rfl (by decide) rfl ?_)
  refine At.go [true] [hC (.string { data := #[97, 99, 99, 101, 112, 116] }), hC (.string { data := #[50] })] rfl (by and_intros <;> first | exact hR0 | exact hI2 | decide | exact oK) ?_
  refine At.una ?_
  refine At.go [true] [] rfl oK ?_
  refine At.step [] rfl rfl rfl rfl rfl trivial (OpOk.indexArr 1 (v := .int .i64 1) rfl rfl rfl rfl rfl (by decide) rfl ?_)
  refine At.go [true] [hC (.string { data := #[107, 105, 110, 100] }), hC (.string { data := #[49] })] rfl (by and_intros <;> first | exact hR1 | exact hI1 | decide | exact oK) ?_
  refine At.una ?_
  refine At.go [true] [] rfl oK ?_
  refine At.step [] rfl rfl rfl rfl rfl trivial (OpOk.indexArr 2 (v := .int .i64 0) rfl rfl rfl rfl rfl (by decide) rfl ?_)
  refine At.go [false] [] rfl oK ?_
  refine At.una ?_
  refine At.go [true] [] rfl oK ?_
  refine At.step [] rfl rfl rfl rfl rfl trivial (OpOk.indexArr 3 (v := .int .i64 0) rfl rfl rfl rfl rfl (by decide) rfl ?_)
  refine At.go [false] [] rfl oK ?_
  refine At.una ?_
  refine At.go [true] [] rfl oK ?_
  refine At.step [] rfl rfl rfl rfl rfl trivial (OpOk.indexArr 4 (v := .int .i64 0) rfl rfl rfl rfl rfl (by decide) rfl ?_)
  refine At.go [false] [] rfl oK ?_
  refine At.una ?_
  refine At.go [true] [] rfl oK ?_
  refine At.step [] rfl rfl rfl rfl rfl trivial (OpOk.indexArr 5 (v := .int .i64 0) rfl rfl rfl rfl rfl (by decide) rfl ?_)
  refine At.go [false] [] rfl oK ?_
  refine At.una ?_
  refine At.go [true] [] rfl oK ?_
  refine At.step [] rfl rfl rfl rfl rfl trivial (OpOk.indexArr 6 (v := .int .i64 0) rfl rfl rfl rfl rfl (by decide) rfl ?_)
  refine At.go [false] [] rfl oK ?_
  refine At.una ?_
  refine At.go [true] [] rfl oK ?_
  refine At.step [] rfl rfl rfl rfl rfl trivial (OpOk.indexArr 7 (v := .int .i64 0) rfl rfl rfl rfl rfl (by decide) rfl ?_)
  refine At.go [false] [] rfl oK ?_
  refine At.una ?_
  refine At.go [true] [] rfl oK ?_
  refine At.step [] rfl rfl rfl rfl rfl trivial (OpOk.indexArr 8 (v := .int .i64 0) rfl rfl rfl rfl rfl (by decide) rfl ?_)
  refine At.go [false] [] rfl oK ?_
  refine At.una ?_
  refine At.go [true] [] rfl oK ?_
  refine At.step [] rfl rfl rfl rfl rfl trivial (OpOk.indexArr 9 (v := .int .i64 0) rfl rfl rfl rfl rfl (by decide) rfl ?_)
  refine At.go [false] [] rfl oK ?_
  refine At.una ?_
  refine At.go [true] [] rfl oK ?_
  refine At.step [] rfl rfl rfl rfl rfl trivial (OpOk.indexArr 10 (v := .int .i64 0) rfl rfl rfl rfl rfl (by decide) rfl ?_)
  refine At.go [false] [] rfl oK ?_
  refine At.una ?_
  refine At.go [true] [] rfl oK ?_
  refine At.step [] rfl rfl rfl rfl rfl trivial (OpOk.indexArr 11 (v := .int .i64 0) rfl rfl rfl rfl rfl (by decide) rfl ?_)
  refine At.go [false] [] rfl oK ?_
  refine At.una ?_
  refine At.go [true] [] rfl oK ?_
  refine At.step [] rfl rfl rfl rfl rfl trivial (OpOk.indexArr 12 (v := .int .i64 0) rfl rfl rfl rfl rfl (by decide) rfl ?_)
  refine At.go [false] [] rfl oK ?_
  refine At.una ?_
  refine At.go [true] [] rfl oK ?_
  refine At.step [] rfl rfl rfl rfl rfl trivial (OpOk.indexArr 13 (v := .int .i64 0) rfl rfl rfl rfl rfl (by decide) rfl ?_)
  refine At.go [false] [] rfl oK ?_
  refine At.una ?_
  refine At.go [false] [] rfl oK ?_
  refine At.rt [] [] [] Tryd.func35 ?_
  exact ⟨rfl, rfl, rfl⟩
end Go.Proofs

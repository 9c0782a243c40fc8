/-
  Walks of the library: strings.Builder.
-/
import Derived.Test.YtgkphfipielnhaaDoorM16
import Derived.Test.YtgkphfipielnhaaDoorM7
import Derived.Test.YtgkphfipielnhaaDoorProg
import Derived.Test.YtgkphfipielnhaaDoorChecked
import Derived.Test.YtgkphfipielnhaaDoorM22
import Derived.Test.YtgkphfipielnhaaDoorM11
import Derived.Laws.Externs
import Derived.Lib.Builder
/-
  Walks of the library: strings.Builder.
-/
namespace Go.Proofs
open Go Go.Eng
set_option maxRecDepth 100000
set_option maxHeartbeats 4000000
attribute [local irreducible] Tri

theorem Tryd.noEsc_x (b : Nat) (w : World) : (callFunc 131 ⟨[.pointer (some ⟨b, 0, none⟩)]⟩).run Tryd.prog w = .ok (.value (.pointer (some ⟨b, 0, none⟩))) w := by
  rw [show (⟨[.pointer (some ⟨b, 0, none⟩)]⟩ : Array Value) = #[.pointer (some ⟨b, 0, none⟩)] from rfl, run_callFunc_extern Tryd.func131 (by kernel_rfl) (by kernel_rfl) (by kernel_rfl) (e := Extern.AbiNoEscape.same) (by kernel_rfl), Lib.run_noEscape]
  rfl
/-- A builder's own address: none yet, or its own. -/
def ownPtr (b : Nat) (p : Value) : Prop := p = .pointer none ∨ p = .pointer (some ⟨b, 0, none⟩)
theorem Tryd.copyCheck_w (b : Nat) (p v : Value) (w : World) (hp : ownPtr b p) (hw : Own [(b, 109, [p, v])] [] w) (h1 : v.oneCell' = true) : Tri Tryd.prog 86 [.pointer (some ⟨b, 0, none⟩)] w (kys [(b, 109, [p, v])] []) (fun _ bx hp => bx = [(b, 109, [.pointer (some ⟨b, 0, none⟩), v])] ∧ hp = []) := by
  refine Tri.enter Tryd.func86 rfl (by kernel_rfl) rfl hw ?_
  rcases hp with rfl | rfl
  · have hx : ∀ {S : Base} {bx : Bx} {hp : List Seg}, ExtOb Tryd.prog S bx hp 131 [.pointer (some ⟨b, 0, none⟩)] (.pointer (some ⟨b, 0, none⟩)) := fun {_ _ _} w' _ => Tryd.noEsc_x b w'
    refine At.go [true] [hB 0] rfl (by and_intros <;> first | exact hx | exact oK) ?_
    refine At.step [] rfl rfl rfl rfl rfl trivial (OpOk.toUnsafe (t := 109) 0 rfl rfl rfl (by kernel_rfl) (by kernel_rfl) (by kernel_rfl) (Nat.zero_lt_succ _) ?_)
    refine At.go [] [hX (.pointer (some ⟨b, 0, none⟩))] rfl (by and_intros <;> first | exact hx | exact oK) ?_
    refine At.step [] rfl rfl rfl rfl rfl trivial (OpOk.ofUnsafe (u := 109) 0 rfl rfl rfl (by kernel_rfl) (by kernel_rfl) (by kernel_rfl) (by kernel_rfl) ?_)
    refine At.go [] [hB 0] rfl (by and_intros <;> first | exact hx | exact oK) ?_
    refine At.rt [true] [] [] Tryd.func86 ?_
    exact ⟨rfl, rfl⟩
  · refine At.go [false] [hB 0, hB 0] rfl oK ?_
    refine At.step [] rfl rfl rfl rfl rfl trivial (OpOk.neqSelf (te := 109) rfl rfl rfl (by kernel_rfl) (by kernel_rfl) ?_)
    refine At.go [false] [] rfl oK ?_
    refine At.rt [true] [] [] Tryd.func86 ?_
    exact ⟨rfl, rfl⟩
/-- A builder: its own address, its bytes. -/
def Tryd.bldC (p : Value) (a : Option Nat) (n c : Nat) : List Value := [p, sv a n c]
theorem Tryd.writeStr_w (b : Nat) (p : Value) (a : Option Nat) (c : Nat) (l s : List UInt8) (w : World) (hp : ownPtr b p) (hl : l.length + s.length ≤ 1000000) (hw : Own [(b, 109, [p, sv a l.length c])] [Seg.row a 5 1 l.length c (u8s l)] w) :
    Tri Tryd.prog 52 [.pointer (some ⟨b, 0, none⟩), str s] w (kys [(b, 109, [p, sv a l.length c])] [Seg.row a 5 1 l.length c (u8s l)]) (fun _ bx hp => ∃ a' c', bx = [(b, 109, [.pointer (some ⟨b, 0, none⟩), sv a' (l ++ s).length c'])] ∧ hp = [Seg.row a' 5 1 (l ++ s).length c' (u8s (l ++ s))]) := by
  refine Tri.enter Tryd.func52 rfl (by kernel_rfl) rfl hw ?_
  refine At.go [] [] rfl oK ?_
  refine At.step [] rfl rfl rfl rfl rfl trivial (OpOk.callM [true] [false] rfl rfl (fun w' hw' => Tryd.copyCheck_w b p _ w' hp (hw'.toOwn.sel [true] [false] rfl) rfl) ?_)
  rintro v _ _ ⟨rfl, rfl⟩
  refine At.go [] [hB 0] rfl oK ?_
  refine At.step [] rfl rfl rfl rfl rfl trivial (OpOk.appendStr 0 rfl rfl rfl rfl rfl rfl rfl (by rw [bl_of]; omega) fun a2 c2 => ?_)
  rw [bl_of, show l.length + s.length = (l ++ s).length by simp, show u8s l ++ u8s s = u8s (l ++ s) by rw [u8s_append]]
  refine At.go [] [hB 0] rfl oK ?_
  refine At.rt [true] [true] [] Tryd.func52 ?_
  exact ⟨a2, c2, rfl, rfl⟩
theorem Tryd.bldStr_w (b : Nat) (p : Value) (a : Option Nat) (c : Nat) (l : List UInt8) (w : World) (hl : l.length ≤ 1000000) (hn : l = [] → a = none ∧ c = 0) (hw : Own [(b, 109, [p, sv a l.length c])] [Seg.row a 5 1 l.length c (u8s l)] w) :
    Tri Tryd.prog 53 [.pointer (some ⟨b, 0, none⟩)] w (kys [(b, 109, [p, sv a l.length c])] [Seg.row a 5 1 l.length c (u8s l)]) (fun v bx hp => v = str l ∧ bx = [] ∧ hp = []) := by
  refine Tri.enter Tryd.func53 rfl (by kernel_rfl) rfl hw ?_
  by_cases h0 : l = []
  · obtain ⟨rfl, rfl⟩ := hn h0
    subst h0
    refine At.go [] [] rfl oK ?_
    refine At.dr 12 ?_
    refine AtD.pu [0, 5] 10 rfl oK ?_
    refine AtD.pu [1, 6] 8 rfl oK ?_
    refine AtD.pu [2, 7] 6 rfl oK ?_
    refine AtD.fork2 3 8 (by kernel_rfl) (StepD.by [] rfl rfl rfl rfl trivial (OpOk.one true [] [hB 0] rfl oK ?_)) (StepD.by [] rfl rfl rfl rfl trivial (OpOk.one true [] [hB 0] rfl oK ?_))
    · refine AtD.fork2 4 8 (by kernel_rfl) (StepD.by [] rfl rfl rfl rfl trivial (OpOk.sliceDataNil rfl ?_)) (StepD.by [] rfl rfl rfl rfl trivial (OpOk.one true [] [hB 0] rfl oK ?_))
      · refine AtD.f1 8 [] [] [hB 0] rfl rfl rfl oK oK ?_
        refine AtD.pu [9] 2 rfl oK ?_
        refine AtD.f1r 10 (OpOk.unsafeStr0 rfl ?_)
        refine AtD.pu [11] 0 rfl oK ?_
        refine AtD.dn ?_
        refine At.go [] [] rfl oK ?_
        refine At.rt [false] [false] [] Tryd.func53 ?_
        exact ⟨rfl, rfl, rfl⟩
      · refine AtD.pu [9] 3 rfl oK ?_
        refine AtD.f1r 4 (OpOk.sliceDataNil rfl ?_)
        skip
        refine AtD.f1r 10 (OpOk.unsafeStr0 rfl ?_)
        refine AtD.pu [11] 0 rfl oK ?_
        refine AtD.dn ?_
        refine At.go [] [] rfl oK ?_
        refine At.rt [false] [false] [] Tryd.func53 ?_
        exact ⟨rfl, rfl, rfl⟩
    · refine AtD.pu [9] 4 rfl oK ?_
      refine AtD.f1 3 [] [] [hB 0] rfl rfl rfl oK oK ?_
      refine AtD.f1r 4 (OpOk.sliceDataNil rfl ?_)
      skip
      refine AtD.f1r 10 (OpOk.unsafeStr0 rfl ?_)
      refine AtD.pu [11] 0 rfl oK ?_
      refine AtD.dn ?_
      refine At.go [] [] rfl oK ?_
      refine At.rt [false] [false] [] Tryd.func53 ?_
      exact ⟨rfl, rfl, rfl⟩
  · have hp0 := List.length_pos_iff.2 h0
    refine At.rowSome 0 rfl hp0 fun g hg => ?_
    subst hg
    refine At.rowCap 0 rfl fun hcap => ?_
    have hc : 0 < c := by omega
    refine At.go [] [] rfl oK ?_
    refine At.dr 12 ?_
    refine AtD.pu [0, 5] 10 rfl oK ?_
    refine AtD.pu [1, 6] 8 rfl oK ?_
    refine AtD.pu [2, 7] 6 rfl oK ?_
    refine AtD.fork2 3 8 (by kernel_rfl) (StepD.by [] rfl rfl rfl rfl trivial (OpOk.one true [] [hB 0] rfl oK ?_)) (StepD.by [] rfl rfl rfl rfl trivial (OpOk.one true [] [hB 0] rfl oK ?_))
    · refine AtD.fork2 4 8 (by kernel_rfl) (StepD.by [] rfl rfl rfl rfl trivial (OpOk.sliceData rfl hc ?_)) (StepD.by [] rfl rfl rfl rfl trivial (OpOk.one true [] [hB 0] rfl oK ?_))
      · refine AtD.f1 8 [] [] [hB 0] rfl rfl rfl oK oK ?_
        refine AtD.pu [9] 2 rfl oK ?_
        refine AtD.f1r 10 (OpOk.unsafeStr rfl rfl rfl h0 rfl (by omega) ?_)
        refine AtD.pu [11] 0 rfl oK ?_
        refine AtD.dn ?_
        refine At.go [] [] rfl oK ?_
        refine At.rt [false] [] [] Tryd.func53 ?_
        exact ⟨rfl, rfl, rfl⟩
      · refine AtD.pu [9] 3 rfl oK ?_
        refine AtD.f1r 4 (OpOk.sliceData rfl hc ?_)
        skip
        refine AtD.f1r 10 (OpOk.unsafeStr rfl rfl rfl h0 rfl (by omega) ?_)
        refine AtD.pu [11] 0 rfl oK ?_
        refine AtD.dn ?_
        refine At.go [] [] rfl oK ?_
        refine At.rt [false] [] [] Tryd.func53 ?_
        exact ⟨rfl, rfl, rfl⟩
    · refine AtD.pu [9] 4 rfl oK ?_
      refine AtD.f1 3 [] [] [hB 0] rfl rfl rfl oK oK ?_
      refine AtD.f1r 4 (OpOk.sliceData rfl hc ?_)
      skip
      refine AtD.f1r 10 (OpOk.unsafeStr rfl rfl rfl h0 rfl (by omega) ?_)
      refine AtD.pu [11] 0 rfl oK ?_
      refine AtD.dn ?_
      refine At.go [] [] rfl oK ?_
      refine At.rt [false] [] [] Tryd.func53 ?_
      exact ⟨rfl, rfl, rfl⟩
end Go.Proofs

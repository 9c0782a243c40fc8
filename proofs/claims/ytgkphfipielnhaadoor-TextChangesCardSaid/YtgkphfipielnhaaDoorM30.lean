/-
  Walks of layer 32: the example of the statements; the statement of lines printed.
-/
import Derived.Test.YtgkphfipielnhaaDoorM16
import Derived.Test.YtgkphfipielnhaaDoorM7
import Derived.Test.YtgkphfipielnhaaDoorM28
import Derived.Test.YtgkphfipielnhaaDoorM29
/-
  Walks of layer 32: the example of the statements; the statement of lines printed.
-/
namespace Go.Proofs
open Go Go.Eng
set_option maxRecDepth 100000
set_option maxHeartbeats 4000000
attribute [local irreducible] Tri

theorem dd1 {u : Nat} (h : u < 10) : Lib.decDigits u = [UInt8.ofNat (48 + u)] := by rw [Lib.decDigits, dif_pos h]
/-- The line of the example is no event's line. -/
theorem ex32_no : lineB pnum [115, 110, 97, 112, 32, 55, 32, 48] = (zero7, 3) := by
  rcases line_cases pnum [115, 110, 97, 112, 32, 55, 32, 48] with ⟨p, h1, ns, ha, hl, rfl, hp⟩ | h1
  · have hw := words_print (pad7 ns)
    rw [hp] at hw
    have h2 : wordsA [] [115, 110, 97, 112, 32, 55, 32, 48] = [[115, 110, 97, 112], [55], [48]] := by decide
    rw [h2] at hw ha
    injection hw with hn hm
    have i7 : Lib.itoa 7 = [55] := by rw [itoa_small (by decide) (by decide)]; rfl
    have i0 : Lib.itoa 0 = [48] := by rw [itoa_small (by decide) (by decide)]; rfl
    have hns : allW pnum [[55], [48]] = some [7, 0] := by
      rw [← i7, ← i0]
      exact allW_itoa (ns := [7, 0]) (fun n h => pnum_itoa h) (by intro x hx; simp at hx; rcases hx with rfl | rfl <;> simp [inK])
    rw [List.tail_cons, hns] at ha
    obtain rfl : [7, 0] = ns := by simpa using ha
    have h0 : pg (pad7 [7, 0]) 0 = 7 := rfl
    have ht : tz (pad7 [7, 0]) 7 = 1 := by decide
    rw [ht] at hm
    have := congrArg List.length hm
    simp [pad7] at this
  · rw [h1, if_neg (by decide)]
theorem ex32_p : printB [4, 1, 7, 3, 0, 2, 5] = [111, 114, 100, 101, 114, 32, 52, 32, 49, 32, 55, 32, 51, 32, 48, 32, 50, 32, 53] := by
  have e : ∀ n : Int, 0 ≤ n → n < 10 → Lib.itoa n = [UInt8.ofNat (48 + n.toNat)] := fun n h1 h2 => itoa_small h1 h2
  unfold printB numsB
  rw [show tz [4, 1, 7, 3, 0, 2, 5] 7 = 7 by decide]
  simp only [List.take, List.flatMap_cons, List.flatMap_nil, e 4 (by decide) (by decide), e 1 (by decide) (by decide), e 7 (by decide) (by decide), e 3 (by decide) (by decide), e 0 (by decide) (by decide), e 2 (by decide) (by decide), e 5 (by decide) (by decide)]
  rfl
theorem Tryd.alive32_w (w : World) (hW : Tryd.TxW w) : Fun Tryd.prog 14 [] w (.bool true) := by
  refine Tri.enter (bx := []) (hp := []) Tryd.func14 rfl (by kernel_rfl) rfl (Own.nil w) ?_
  have hP : ∀ {bx : Bx} {hp : List Seg}, CallOb Tryd.prog ⟨w, kys [] []⟩ bx hp 16 [str [115, 110, 97, 112, 32, 55, 32, 48]] (.tuple #[.agg ⟨[.int .i64 0, .int .i64 0, .int .i64 0, .int .i64 0, .int .i64 0, .int .i64 0, .int .i64 0]⟩, .int .i64 3]) := fun {_ _} w' hw' => by
    have := Tryd.parse_w [115, 110, 97, 112, 32, 55, 32, 48] w' (by decide) (hW.ext hw'.ext)
    rw [ex32_no] at this; exact this
  have hQ : ∀ {bx : Bx} {hp : List Seg}, CallOb Tryd.prog ⟨w, kys [] []⟩ bx hp 15 [.agg ⟨[.int .i64 4, .int .i64 1, .int .i64 7, .int .i64 3, .int .i64 0, .int .i64 2, .int .i64 5]⟩] (str [111, 114, 100, 101, 114, 32, 52, 32, 49, 32, 55, 32, 51, 32, 48, 32, 50, 32, 53]) := fun {_ _} w' hw' => by
    have := Tryd.print_w [4, 1, 7, 3, 0, 2, 5] rfl (by intro x hx; simp at hx; simp only [inK]; omega) w' (hW.nms.ext hw'.ext (by simp [kys])) (tab_ext hW.pow hw'.ext)
    rw [ex32_p] at this; exact this
  refine At.go [] [hC (.tuple ⟨[.agg ⟨[.int .i64 0, .int .i64 0, .int .i64 0, .int .i64 0, .int .i64 0, .int .i64 0, .int .i64 0]⟩, .int .i64 3]⟩)] rfl (by and_intros <;> first | exact hP | exact hQ | (simp [bl]; done) | exact oK) ?_
  refine At.al fun b1 hb1 => ?_
  refine At.go [true] [hB 0, hC (.string { data := #[111, 114, 100, 101, 114, 32, 52, 32, 49, 32, 55, 32, 51, 32, 48, 32, 50, 32, 53] })] rfl (by and_intros <;> first | exact hP | exact hQ | (simp [bl]; done) | exact oK) ?_
  refine At.rt [] [] [] Tryd.func14 ?_
  exact ⟨rfl, rfl, rfl⟩
theorem Tryd.prints32_w (p : List Int) (hl : p.length = 7) (hin : ∀ x, x ∈ p → inK .i64 x) (w : World) (hW : Tryd.TxW w) : Fun Tryd.prog 5 [.agg ⟨i64s p⟩] w (.bool true) := by
  obtain ⟨p0, p1, p2, p3, p4, p5, p6, hpe⟩ := seven hl
  have hcs : i64s p = [.int .i64 p0, .int .i64 p1, .int .i64 p2, .int .i64 p3, .int .i64 p4, .int .i64 p5, .int .i64 p6] := by rw [hpe]; rfl
  rw [hcs]
  refine Tri.enter (bx := []) (hp := []) Tryd.func5 rfl (by kernel_rfl) rfl (Own.nil w) ?_
  have hA : ∀ {bx : Bx} {hp : List Seg}, CallOb Tryd.prog ⟨w, kys [] []⟩ bx hp 14 [] (.bool true) := fun {_ _} w' hw' => Tryd.alive32_w w' (hW.ext hw'.ext)
  have hQ : ∀ {bx : Bx} {hp : List Seg}, CallOb Tryd.prog ⟨w, kys [] []⟩ bx hp 15 [.agg ⟨[.int .i64 p0, .int .i64 p1, .int .i64 p2, .int .i64 p3, .int .i64 p4, .int .i64 p5, .int .i64 p6]⟩] (str (printB p)) := fun {_ _} w' hw' => by
    rw [← hcs]; exact Tryd.print_w p hl hin w' (hW.nms.ext hw'.ext (by simp [kys])) (tab_ext hW.pow hw'.ext)
  have hRp : ∀ {bx : Bx} {hp : List Seg}, CallOb Tryd.prog ⟨w, kys [] []⟩ bx hp 17 [.agg ⟨[.int .i64 p0, .int .i64 p1, .int .i64 p2, .int .i64 p3, .int .i64 p4, .int .i64 p5, .int .i64 p6]⟩] (str (printB p)) := fun {_ _} w' hw' => by
    rw [← hcs]; exact Tryd.rPrint_w p hl hin w'
  have hP : ∀ {bx : Bx} {hp : List Seg}, CallOb Tryd.prog ⟨w, kys [] []⟩ bx hp 16 [str (printB p)] (.tuple #[.agg ⟨[.int .i64 p0, .int .i64 p1, .int .i64 p2, .int .i64 p3, .int .i64 p4, .int .i64 p5, .int .i64 p6]⟩, .int .i64 0]) := fun {_ _} w' hw' => by
    have h1 := printB_len hin
    have := Tryd.parse_w (printB p) w' (by omega) (hW.ext hw'.ext)
    rw [line_print (fun n h => pnum_itoa h) hl hin] at this
    rw [← hcs]; exact this
  refine At.go [] [] rfl (by and_intros <;> first | exact hA | exact hQ | exact hRp | exact hP | (simp [bl]; done) | (simp; done) | exact oK) ?_
  refine At.bo fun b1 hb1 => ?_
  refine At.go [false] [hC (.bool true), hB 0, hC (.string { data := (printB p).toArray }), hC (.tuple ⟨[.agg ⟨[.int .i64 p0, .int .i64 p1, .int .i64 p2, .int .i64 p3, .int .i64 p4, .int .i64 p5, .int .i64 p6]⟩, .int .i64 0]⟩)] rfl (by and_intros <;> first | exact hA | exact hQ | exact hRp | exact hP | (simp [bl]; done) | (simp; done) | exact oK) ?_
  refine At.al fun b4 hb4 => ?_
  refine At.go [true, true] [hB 0, hB 1, hC (.string { data := (printB p).toArray }), hB 0, hB 1] rfl (by and_intros <;> first | exact hA | exact hQ | exact hRp | exact hP | (simp [bl]; done) | (simp; done) | exact oK) ?_
  refine At.rt [] [] [] Tryd.func5 ?_
  exact ⟨by simp [tupV], rfl, rfl⟩
end Go.Proofs

/-
  Walks of layer 9's document: files used, read, set, and put.
-/
import Derived.Test.YtibdpdlghibijaaGreatDoorMT7
import Derived.Test.YtibdpdlghibijaaGreatDoorMT47
import Derived.Test.YtibdpdlghibijaaGreatDoorMT40
import Derived.Test.YtibdpdlghibijaaGreatDoorMT44
import Derived.Test.YtibdpdlghibijaaGreatDoorMT12
/-
  Walks of layer 9's document: files used, read, set, and put.
-/
namespace Go.Proofs
open Go Go.Eng
set_option maxRecDepth 100000
set_option maxHeartbeats 4000000
attribute [local irreducible] Tri

end Go.Proofs

/-
  Walks of layer 9's document: a disk synced, cut, and crashed.
-/
namespace Go.Proofs
open Go Go.Eng
set_option maxRecDepth 100000
set_option maxHeartbeats 4000000
attribute [local irreducible] Tri

def rdV (vS vK vP : Value) (r : Nat) : List Value := [vS, vK, vP, .int .i64 r]
def wrL (p : List UInt8 × Nat × List UInt8) : List Value := [str p.1, .int .i64 p.2.1, str p.2.2]
def BOK (S : FL) : Prop := ∀ p, p ∈ S → p.2.length ≤ 1048576
theorem BOK.read {S : FL} (h : BOK S) (n : List UInt8) : (readN S n).length ≤ 1048576 := by
  rcases @readN_mem S n with h1 | h1
  · rw [h1]; simp
  · exact h _ h1
theorem BOK.set {S : FL} (h : BOK S) {n s : List UInt8} (hs : s.length ≤ 1048576) : BOK (setN n s S) := by
  intro p hp
  rcases (setN_mem n s S p).1 hp with ⟨-, rfl⟩ | ⟨h1, -⟩
  · exact hs
  · exact h p h1
theorem BOK.put {S : FL} (h : BOK S) {n s : List UInt8} {at0 : Nat} (hs : at0 + s.length ≤ 1048576) : BOK (setN n (wrB (readN S n) at0 s) S) := by
  refine h.set ?_
  have := h.read n
  rw [wrB_len]; omega
/-- Files that are the ones that were there, or new ones. -/
def OneOf (t : TypeId) (sz : Nat) (ka : Option Addr) (kc : Nat) (xs0 xs : List Value) (a : Option Addr) (n c : Nat) (hp : List Seg) : Prop :=
  (hp = [] ∧ a = ka ∧ c = kc ∧ xs = xs0) ∨ ∃ g, a = svA g ∧ hp = [Seg.row g t sz n c xs]
theorem OneOf.sl {S : Base} {t : TypeId} {sz : Nat} {ka : Option Addr} {kc : Nat} {xs0 xs : List Value} {a : Option Addr} {n c : Nat} {hp : List Seg} (h : OneOf t sz ka kc xs0 xs a n c hp) (hm : S.mods = []) (h0 : SlOk S.w0 ka xs0) {bx : Bx} {hp' : List Seg} {w : World} (hw : WOk S bx hp' w) (hs : ∀ s, s ∈ hp → s ∈ hp') : SlOk w a xs := by
  rcases h with ⟨-, rfl, -, rfl⟩ | ⟨g, rfl, rfl⟩
  · exact h0.ext hw.ext (by simp [hm])
  · exact SlOk.row (hw.hp _ (hs (Seg.row g t sz n c xs) (by simp)))

end Go.Proofs

/-
  Walks of layer 9's document: a disk written.
-/
namespace Go.Proofs
open Go Go.Eng
set_option maxRecDepth 100000
set_option maxHeartbeats 4000000
attribute [local irreducible] Tri

theorem setN_sum (n s : List UInt8) : ∀ S : FL, sumB (setN n s S) ≤ sumB S + s.length
  | [] => by
    unfold setN
    split <;> simp [sumB]
  | p :: l => by
    unfold setN
    split
    · have := setN_sum n s l
      simp only [sumB_cons]; omega
    · have hf : sumB ((p :: l).filter fun q => !decide (q.1 = n)) ≤ sumB (p :: l) := by
        generalize p :: l = L
        induction L with
        | nil => simp [sumB]
        | cons q L ih =>
          rw [List.filter_cons]
          split <;> simp only [sumB_cons] <;> omega
      have e : sumB ((if s = [] then [] else [(n, s)]) ++ (p :: l).filter fun q => !decide (q.1 = n)) = sumB (if s = [] then [] else [(n, s)]) + sumB ((p :: l).filter fun q => !decide (q.1 = n)) := by simp [sumB]
      rw [e]
      have e2 : sumB (if s = [] then [] else [(n, s)]) ≤ s.length := by split <;> simp [sumB]
      omega

end Go.Proofs

/-
  Walks of layer 9: a disk synced, and cut; does a disk stand as the document says?
-/
namespace Go.Proofs
open Go Go.Eng
set_option maxRecDepth 100000
set_option maxHeartbeats 4000000
attribute [local irreducible] Tri

theorem SlOk.takeN {w : World} {a : Option Addr} {xs : List Value} (h : SlOk w a xs) (k : Nat) : SlOk w a (xs.take k) := by
  rcases h with rfl | ⟨b, o, h1, h2⟩
  · exact .inl (by simp)
  · refine .inr ⟨b, o, h1, fun j u hu => h2 j u ?_⟩
    rw [List.getElem?_take] at hu
    split at hu
    · exact hu
    · cases hu
theorem FilesOk.capF {w : World} {t : TypeId} {b : Nat} {F : List FileE} (h : FilesOk w t b F) {n : List UInt8} {a : Option Addr} {m c : Nat} (hv : valF F n = .slice a m c) : m ≤ c := by
  unfold valF at hv
  split at hv
  · rename_i f hf
    have := (h.row f (getF_some hf).1).le
    simp only [sv, Value.slice.injEq] at hv
    omega
  · simp only [sv, Value.slice.injEq] at hv
    omega

theorem Tryz.DSync_w (d r bs : Nat) (kk : Option Nat) (pa : Option Addr) (pn pc : Nat) (FS : List FileE) (w : World) (hown : Own [(d, 93, dkV r bs (.map kk) (.slice pa pn pc))] [Seg.files 5 bs FS] w) (hFb : FOK (nbs FS)) :
    Tri Tryz.prog 52 [.pointer (some ⟨d, 0, none⟩)] w (kys [(d, 93, dkV r bs (.map kk) (.slice pa pn pc))] [Seg.files 5 bs FS])
      (fun v bx hp => v = .int .i64 0 ∧ ∃ b2 F2, bx = [(d, 93, dkV r bs (.map (some b2)) (.slice none 0 0))] ∧ hp = [Seg.files 5 b2 F2, Seg.files 5 bs FS] ∧ (nbs F2).Perm (nbs FS)) := by
  refine Tri.enter Tryz.func52 rfl (by kernel_rfl) rfl hown ?_
  refine At.run 100 true [false] [hB 0] rfl oK ?_
  refine At.step [] rfl rfl rfl rfl rfl trivial (OpOk.call rfl (fun w' hw' => Tryz.copied_w bs FS w' (hw'.files (by simp)) (fun f hf => by have := hFb _ (mem_nbs hf); simp only at this; omega)) ?_)
  rintro v bx' hp' ⟨b2, F2, rfl, rfl, rfl, hp2⟩
  refine At.run 100 true [] [hB 0, hB 0] rfl oK ?_
  exact At.ret [] rfl Tryz.func52 rfl trivial ⟨rfl, b2, F2, rfl, rfl, hp2⟩

theorem Tryz.DCut_w (d r bs : Nat) (kk : Option Nat) (pa : Option Addr) (pn pc : Nat) (FS : List FileE) (n : List UInt8) (m : Int) (w : World) (hown : Own [(d, 93, dkV r bs (.map kk) (.slice pa pn pc))] [Seg.files 5 bs FS] w) (hFb : FOK (nbs FS)) (_hm : inK .i64 m) (hpn : pn ≤ 9223372036854775807) :
    Tri Tryz.prog 90 [.pointer (some ⟨d, 0, none⟩), str n, .int .i64 m] w (kys [(d, 93, dkV r bs (.map kk) (.slice pa pn pc))] [Seg.files 5 bs FS])
      (fun v bx hp => if 0 < pn then v = .int .i64 8 ∧ bx = [(d, 93, dkV r bs (.map kk) (.slice pa pn pc))] ∧ hp = [Seg.files 5 bs FS]
        else if m < 0 then v = .int .i64 1 ∧ bx = [(d, 93, dkV r bs (.map kk) (.slice pa pn pc))] ∧ hp = [Seg.files 5 bs FS]
        else if ((bytesF FS n).length : Int) ≤ m then v = .int .i64 0 ∧ bx = [(d, 93, dkV r bs (.map kk) (.slice pa pn pc))] ∧ hp = [Seg.files 5 bs FS]
        else v = .int .i64 0 ∧ ∃ b2 F2 g c, bx = [(d, 93, dkV r bs (.map (some b2)) (.slice pa pn pc))] ∧
          hp = [Seg.files 5 b2 F2, Seg.files 5 bs (if m = 0 then delF FS n else putF FS ⟨n, (bytesF FS n).take m.toNat, g, c⟩)] ∧ (nbs F2).Perm (nbs (if m = 0 then delF FS n else putF FS ⟨n, (bytesF FS n).take m.toNat, g, c⟩))) := by
  refine Tri.enter Tryz.func90 rfl (by kernel_rfl) rfl hown ?_
  by_cases h1 : 0 < pn
  · refine At.run 100 true [false, true, true] [hB 0] rfl oK ?_
    exact At.ret [] rfl Tryz.func90 rfl trivial (by rw [if_pos h1]; exact ⟨rfl, rfl, rfl⟩)
  by_cases h2 : m < 0
  · refine At.run 100 true [false, false, true] [hB 0] rfl oK ?_
    exact At.ret [] rfl Tryz.func90 rfl trivial (by rw [if_neg h1, if_pos h2]; exact ⟨rfl, rfl, rfl⟩)
  obtain ⟨ao, co, hval, hsl⟩ := FilesOk.slF (hown.files (t := 5) (b := bs) (F := FS) (by simp)) n
  have hlen := (hFb.read n)
  rw [readN_nbs] at hlen
  have hLk : ∀ {bx : Bx} {hp : List Seg}, LookOb Tryz.prog ⟨w, kys [(d, 93, dkV r bs (.map kk) (.slice pa pn pc))] [Seg.files 5 bs FS]⟩ bx (Seg.files 5 bs FS :: hp) 90 (.map (some bs)) (str n) false (.slice ao (bytesF FS n).length co) := fun {_ _} => by
    rw [← hval]
    exact LookOb.file Tryz.filesT Tryz.strT Tryz.zeroBytes (fun w' hw' => hw'.files (t := 5) (by simp))
  by_cases h3 : ((bytesF FS n).length : Int) ≤ m
  · refine At.run 100 true [false, false, false, true] [hB 0, hB 0, hL (.slice ao (bytesF FS n).length co)] rfl (by and_intros <;> first | exact hLk | exact oK) ?_
    exact At.ret [] rfl Tryz.func90 rfl trivial (by rw [if_neg h1, if_neg h2, if_pos h3]; exact ⟨rfl, rfl, rfl⟩)
  refine At.run 100 true [false, false, false, false] [hB 0, hB 0, hL (.slice ao (bytesF FS n).length co)] rfl (by and_intros <;> first | exact hLk | exact oK) ?_
  by_cases h0 : m = 0
  · refine At.run 100 true [true] [hB 0] rfl oK ?_
    refine At.step0 [] rfl rfl rfl rfl trivial (OpOk.filesDel 0 rfl Tryz.filesT Tryz.strT rfl ?_)
    refine At.run 100 true [] [hB 0] rfl oK ?_
    refine At.step [] rfl rfl rfl rfl rfl trivial (OpOk.call rfl (fun w' hw' => Tryz.copied_w bs (delF FS n) w' (hw'.files (by simp [setL])) (fun f hf => by have := hFb _ (mem_nbs (delF_sub.mem hf)); simp only at this; omega)) ?_)
    rintro v bx' hp' ⟨b2, F2, rfl, rfl, rfl, hp2⟩
    refine At.run 100 true [] [hB 0] rfl oK ?_
    exact At.ret [] rfl Tryz.func90 rfl trivial (by rw [if_neg h1, if_neg h2, if_neg h3]; exact ⟨rfl, b2, F2, 0, 0, rfl, by rw [if_pos h0]; rfl, by rw [if_pos h0]; exact hp2⟩)
  · refine At.run 100 true [false] [] rfl oK ?_
    have hco : (bytesF FS n).length ≤ co := FilesOk.capF (hown.files (t := 5) (b := bs) (F := FS) (by simp)) hval
    have hcl : (bytesF FS n).length ≤ 9223372036854775807 := by omega
    refine At.draw 10 rfl rfl rfl rfl ?_
    refine AtD.pures (ob := True) true (by kernel_rfl) [0, 1, 2, 4, 5, 6, 7] (fuel := 3) (by kernel_rfl) rfl oK ?_
    have htl : ((bytesF FS n).take m.toNat).length = m.toNat := by rw [List.length_take]; omega
    have e45 : Value.slice ao m.toNat co = .slice ao ((bytesF FS n).take m.toNat).length co := by rw [htl]
    rw [e45]
    have hClone : ∀ {bx : Bx} {w' : World}, WOk ⟨w, kys [(d, 93, dkV r bs (.map kk) (.slice pa pn pc))] [Seg.files 5 bs FS]⟩ bx [Seg.files 5 bs FS] w' → _ := fun {_ w'} hw' =>
      Tryz.cloneB_w ((bytesF FS n).take m.toNat) ao co w' (by omega) (by omega) (by
        obtain ⟨a2, c2, hv2, hs2⟩ := FilesOk.slF (hw'.files (t := 5) (b := bs) (F := FS) (by simp)) n
        rw [hval] at hv2
        injection hv2 with e1 e2 e3
        subst e1
        have : u8s ((bytesF FS n).take m.toNat) = (u8s (bytesF FS n)).take m.toNat := List.map_take ..
        rw [this]
        exact SlOk.takeN hs2 _)
    refine AtD.cutS (ι := Nat × Nat) 1 #[true, true, true, true, true, true, true, true, true, false] (fun q => [(0, .pointer (some ⟨d, 0, none⟩)), (41, .map (some bs)), (42, str n), (46, sv (some q.1) ((bytesF FS n).take m.toNat).length q.2)]) (fun _ => [(d, 93, dkV r bs (.map kk) (.slice pa pn pc))]) (fun q => [Seg.row (some q.1) 5 1 ((bytesF FS n).take m.toNat).length q.2 (u8s ((bytesF FS n).take m.toNat)), Seg.files 5 bs FS]) ?_ (fun hd => ?_)
    · rintro ⟨g, c⟩
      refine AtD.fork1 9 (by kernel_rfl) (StepD.by0 [] rfl rfl rfl trivial (OpOk.filesPut ⟨n, (bytesF FS n).take m.toNat, g, c⟩ rfl rfl rfl rfl Tryz.filesT Tryz.strT ?_))
      refine AtD.done (by kernel_rfl) ?_
      refine At.run 100 true [] [hB 0] rfl oK ?_
      refine At.step [] rfl rfl rfl rfl rfl trivial (OpOk.call rfl (fun w' hw' => Tryz.copied_w bs (putF FS ⟨n, (bytesF FS n).take m.toNat, g, c⟩) w' (hw'.files (by simp)) (fun f hf => ?_)) ?_)
      · rcases putF_mem hf with rfl | hf
        · simp only [htl]; omega
        · have := hFb _ (mem_nbs hf); simp only at this; omega
      rintro v bx' hp' ⟨b2, F2, rfl, rfl, rfl, hp2⟩
      refine At.run 100 true [] [hB 0] rfl oK ?_
      exact At.ret [] rfl Tryz.func90 rfl trivial (by rw [if_neg h1, if_neg h2, if_neg h3]; exact ⟨rfl, b2, F2, g, c, rfl, by rw [if_neg h0]; rfl, by rw [if_neg h0]; exact hp2⟩)
    refine AtD.fork2 3 8 (by kernel_rfl) ?_ ?_
    · refine StepD.by [] rfl rfl rfl rfl trivial (OpOk.one true [] [hB 0] rfl oK ?_)
      refine AtD.fork1 8 (by kernel_rfl) (StepD.by [] rfl rfl rfl rfl trivial (OpOk.call rfl (fun w' hw' => hClone hw') ?_))
      rintro v bx' hp' ⟨g, c, rfl, rfl, rfl⟩
      exact AtD.weak (hd (g, c)) ⟨rfl, rfl, rfl, rfl, trivial⟩
    · refine StepD.by [] rfl rfl rfl rfl trivial (OpOk.call rfl (fun w' hw' => hClone hw') ?_)
      rintro v bx' hp' ⟨g, c, rfl, rfl, rfl⟩
      refine AtD.fork1 3 (by kernel_rfl) (StepD.by [] rfl rfl rfl rfl trivial (OpOk.one true [] [hB 0] rfl oK ?_))
      exact AtD.weak (hd (g, c)) ⟨rfl, rfl, rfl, rfl, trivial⟩

end Go.Proofs

/-
  Walks of layer 9: whatever is done with a disk.
-/
namespace Go.Proofs
open Go Go.Eng
set_option maxRecDepth 100000
set_option maxHeartbeats 4000000
attribute [local irreducible] Tri

theorem ord_perm {S R : FL} (hR : (R.map (·.1)).Nodup) (hp : S.Perm R) : ordN S = ordN R := ordN_of_perm (ordN_ris hR) (hp.trans (ordN_perm hR).symm)

/-- How a disk and the document's disk stand. -/
structure PlSt (S0 : Base) (r i : Nat) where
  FS : List FileE
  FK : List FileE
  W : List PendE
  a1 : Option Nat
  pc : Nat
  bs : Nat
  bk : Nat
  aS : Option Addr
  aK : Option Addr
  aP : Option Addr
  cS : Nat
  cK : Nat
  cP : Nat
  ex : List Seg
  inv : PInv r i FS FK W
  fS : Fz S0 ex aS (fl (ordN (nbs FS)))
  fK : Fz S0 ex aK (fl (ordN (nbs FK)))
  fP : Fz S0 ex aP ((W.map PendE.wn).flatMap wrL)
def PlSt.x {S0 : Base} {r i : Nat} (q : PlSt S0 r i) : List Value := rdV (.slice q.aS (ordN (nbs q.FS)).length q.cS) (.slice q.aK (ordN (nbs q.FK)).length q.cK) (.slice q.aP q.W.length q.cP) r
end Go.Proofs

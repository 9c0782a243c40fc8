/-
  Walks of layer 25's document: the clash of two images.
-/
import Derived.Test.YtkmlfggemhachaaGreatDoorMF21
import Derived.Test.YtkmlfggemhachaaGreatDoorMF16
import Derived.Test.YtkmlfggemhachaaGreatDoorMF7
import Derived.Test.YtkmlfggemhachaaGreatDoorMF41
import Derived.Test.YtkmlfggemhachaaGreatDoorMF17
/-
  Walks of layer 25's document: the clash of two images.
-/
namespace Go.Proofs
open Go Go.Eng
set_option maxRecDepth 100000
set_option maxHeartbeats 4000000
attribute [local irreducible] Tri

theorem sdC_one (x : List UInt8 × Nat × Nat) : ∀ u, u ∈ sdC x → u.oneCell' = true := by simp [sdC, Value.oneCell', str]
theorem FndOk.may {P n : Nat} {X : FndB} (h : FndOk P n X) {x : HdB} (hx : x ∈ X.H) : mayH x n = true := by
  obtain ⟨k, hk, rfl⟩ := List.getElem_of_mem hx
  have h1 := h.can k hk
  have h2 := hdAt_get hk
  rw [List.getElem?_eq_getElem hk] at h2
  rwa [← Option.some.inj h2] at h1
theorem Tryz.r25Find_w (S T : FL) (P n : Nat) (c3 c4 : Int) (fa fb : Option Addr) (fc fd : Nat) (w : World) (hS : ImOk w S fa) (hT : ImOk w T fb) (hmay : mayCf P n c3 c4 = true) :
    Fun Tryz.prog 30 [.agg ⟨keyC⟩, .slice fa S.length fc, .slice fb T.length fd, .agg ⟨[.int .i64 P, .int .i64 n, .int .i64 c3, .int .i64 c4]⟩] w (.tuple #[str (twB P n (verF S P n) (verF T P n)).1, str (twB P n (verF S P n) (verF T P n)).2.1, .int .i64 (twB P n (verF S P n) (verF T P n)).2.2]) := by
  have hin := mayCf_in hmay
  have hVX := fun (w' : World) (hw' : Ext [] w w') => Tryz.r22Verify_w S n P c3 c4 fa fc w' hS.len hS.few hS.nm hmay (hS.ext hw').lies
  have hVY := fun (w' : World) (hw' : Ext [] w w') => Tryz.r22Verify_w T n P c3 c4 fb fd w' hT.len hT.few hT.nm hmay (hT.ext hw').lies
  have q1 := verF_few (per := P) (n := n) hS.few
  have q2 := verF_few (per := P) (n := n) hT.few
  have x1 := fun x h => @verF_mem S P n hS.few x h
  have x2 := fun x h => @verF_mem T P n hT.few x h
  have o1 := fun e => @fndOk S P n (by omega) e
  have o2 := fun e => @fndOk T P n (by omega) e
  generalize verF S P n = X at *
  generalize verF T P n = Y at *
  refine Tri.enter (bx := []) (hp := []) Tryz.func30 rfl (by kernel_rfl) rfl (Own.nil w) ?_
  refine At.go [] [] rfl (by and_intros <;> first | exact trivial | exact oK) ?_
  refine At.bo fun b4 hb4 => ?_
  refine At.bo fun b7 hb7 => ?_
  refine At.gn 3 [] [] rfl (by and_intros <;> first | exact trivial | exact oK) ?_
  refine At.cutS (ι := FndI × FndI) ⟨1, [0, 1], []⟩ (fun e => [(4, .pointer (some ⟨b4, 0, none⟩)), (7, .pointer (some ⟨b7, 0, none⟩)), (11, .pointer (some ⟨e.1.b, 0, none⟩)), (12, .pointer (some ⟨e.2.b, 0, none⟩))])
    (fun e => [(e.2.b, 43, fndV Y e.2.gh e.2.hc e.2.g e.2.c e.2.gt e.2.tc), (e.1.b, 43, fndV X e.1.gh e.1.hc e.1.g e.1.c e.1.gt e.1.tc), (b7, 24, [.int .i64 P, .int .i64 n, .int .i64 c3, .int .i64 c4]), (b4, 38, keyC)]) (fun e => Tryz.fndR Y e.2.gh e.2.hc e.2.g e.2.c e.2.gt e.2.tc ++ Tryz.fndR X e.1.gh e.1.hc e.1.g e.1.c e.1.gt e.1.tc) ?_ fun hk0 => ?_
  rotate_left
  · refine At.dr 12 ?_
    refine AtH.readsK [true, true] [] [1, 2, 5, 6] [hB 0, hB 0] rfl rfl oK rfl rfl (fuel := 8) ?_
    refine AtH.ld 0 (.agg ⟨keyC⟩) (Tryz.key_ld (i := 1) rfl) ?_
    refine AtH.ld 4 (.agg ⟨keyC⟩) (Tryz.key_ld (i := 1) rfl) ?_
    refine AtH.fork3 3 8 9 (by kernel_rfl) rfl rfl rfl rfl rfl rfl rfl rfl rfl (OpOk.call rfl (fun w' hw' => hVX w' hw'.ext) ?_) (OpOk.alloc rfl rfl fun b11 hb11 => ⟨fun w hw => hw.selK [false, true, true] [], ?_⟩) (OpOk.alloc rfl rfl fun b12 hb12 => ⟨fun w hw => hw.selK [false, true, true] [], ?_⟩)
    · rintro _ _ _ ⟨gh, hc, g, c, gt, tc, rfl, rfl, rfl⟩
      refine ⟨fun w hw => hw.selK [true, true] [false, false, false], ?_⟩
      refine AtH.fork3 7 8 9 (by kernel_rfl) rfl rfl rfl rfl rfl rfl rfl rfl rfl (OpOk.call rfl (fun w' hw' => hVY w' hw'.ext) ?_) (OpOk.alloc rfl rfl fun b11 hb11 => ⟨fun w hw => hw.selK [false, true, true] [false, false, false], ?_⟩) (OpOk.alloc rfl rfl fun b12 hb12 => ⟨fun w hw => hw.selK [false, true, true] [false, false, false], ?_⟩)
      · rintro _ _ _ ⟨gh', hc', g', c', gt', tc', rfl, rfl, rfl⟩
        refine ⟨fun w hw => hw.selK [true, true] [false, false, false, false, false, false], ?_⟩
        refine AtH.fork2 8 9 (by kernel_rfl) rfl rfl rfl rfl rfl rfl (OpOk.alloc rfl rfl fun b11 hb11 => ⟨fun w hw => hw.selK [false, true, true] [false, false, false, false, false, false], ?_⟩) (OpOk.alloc rfl rfl fun b12 hb12 => ⟨fun w hw => hw.selK [false, true, true] [false, false, false, false, false, false], ?_⟩)
        · refine AtH.f1 9 rfl (OpOk.alloc rfl rfl fun b12 hb12 => ⟨fun w hw => hw.selK [false, false, true, true] [false, false, false, false, false, false], ?_⟩)
          refine AtH.f1 10 rfl (OpOk.one true [] [hB 1] rfl ⟨rfl, fnd_one X gh hc g c gt tc⟩ ⟨fun w hw => hw.selK [false, false, true, true] [false, false, false, false, false, false], ?_⟩)
          refine AtH.f1 11 rfl (OpOk.one true [] [hB 0] rfl ⟨rfl, fnd_one Y gh' hc' g' c' gt' tc'⟩ ⟨fun w hw => hw.selK [false, false, true, true] [false, false, false, false, false, false], ?_⟩)
          refine AtH.dn ?_
          exact At.weak (hk0 (⟨b11, gh, hc, g, c, gt, tc⟩, ⟨b12, gh', hc', g', c', gt', tc'⟩)) sB
        · refine AtH.f1 8 rfl (OpOk.alloc rfl rfl fun b11 hb11 => ⟨fun w hw => hw.selK [false, false, true, true] [false, false, false, false, false, false], ?_⟩)
          refine AtH.f1 10 rfl (OpOk.one true [] [hB 0] rfl ⟨rfl, fnd_one X gh hc g c gt tc⟩ ⟨fun w hw => hw.selK [false, false, true, true] [false, false, false, false, false, false], ?_⟩)
          refine AtH.f1 11 rfl (OpOk.one true [] [hB 1] rfl ⟨rfl, fnd_one Y gh' hc' g' c' gt' tc'⟩ ⟨fun w hw => hw.selK [false, false, true, true] [false, false, false, false, false, false], ?_⟩)
          refine AtH.dn ?_
          refine At.perm (List.Perm.swap _ _ _) (List.Perm.refl _) ?_
          exact At.weak (hk0 (⟨b11, gh, hc, g, c, gt, tc⟩, ⟨b12, gh', hc', g', c', gt', tc'⟩)) sB
      · refine AtH.fork2 7 9 (by kernel_rfl) rfl rfl rfl rfl rfl rfl (OpOk.call rfl (fun w' hw' => hVY w' hw'.ext) ?_) (OpOk.alloc rfl rfl fun b12 hb12 => ⟨fun w hw => hw.selK [false, false, true, true] [false, false, false], ?_⟩)
        · rintro _ _ _ ⟨gh', hc', g', c', gt', tc', rfl, rfl, rfl⟩
          refine ⟨fun w hw => hw.selK [false, true, true] [false, false, false, false, false, false], ?_⟩
          refine AtH.f1 9 rfl (OpOk.alloc rfl rfl fun b12 hb12 => ⟨fun w hw => hw.selK [false, false, true, true] [false, false, false, false, false, false], ?_⟩)
          refine AtH.f1 10 rfl (OpOk.one true [] [hB 1] rfl ⟨rfl, fnd_one X gh hc g c gt tc⟩ ⟨fun w hw => hw.selK [false, false, true, true] [false, false, false, false, false, false], ?_⟩)
          refine AtH.f1 11 rfl (OpOk.one true [] [hB 0] rfl ⟨rfl, fnd_one Y gh' hc' g' c' gt' tc'⟩ ⟨fun w hw => hw.selK [false, false, true, true] [false, false, false, false, false, false], ?_⟩)
          refine AtH.dn ?_
          exact At.weak (hk0 (⟨b11, gh, hc, g, c, gt, tc⟩, ⟨b12, gh', hc', g', c', gt', tc'⟩)) sB
        · refine AtH.f1 7 rfl (OpOk.call rfl (fun w' hw' => hVY w' hw'.ext) ?_)
          rintro _ _ _ ⟨gh', hc', g', c', gt', tc', rfl, rfl, rfl⟩
          refine ⟨fun w hw => hw.selK [false, false, true, true] [false, false, false, false, false, false], ?_⟩
          refine AtH.f1 10 rfl (OpOk.one true [] [hB 1] rfl ⟨rfl, fnd_one X gh hc g c gt tc⟩ ⟨fun w hw => hw.selK [false, false, true, true] [false, false, false, false, false, false], ?_⟩)
          refine AtH.f1 11 rfl (OpOk.one true [] [hB 0] rfl ⟨rfl, fnd_one Y gh' hc' g' c' gt' tc'⟩ ⟨fun w hw => hw.selK [false, false, true, true] [false, false, false, false, false, false], ?_⟩)
          refine AtH.dn ?_
          exact At.weak (hk0 (⟨b11, gh, hc, g, c, gt, tc⟩, ⟨b12, gh', hc', g', c', gt', tc'⟩)) sB
      · refine AtH.fork2 7 8 (by kernel_rfl) rfl rfl rfl rfl rfl rfl (OpOk.call rfl (fun w' hw' => hVY w' hw'.ext) ?_) (OpOk.alloc rfl rfl fun b11 hb11 => ⟨fun w hw => hw.selK [false, false, true, true] [false, false, false], ?_⟩)
        · rintro _ _ _ ⟨gh', hc', g', c', gt', tc', rfl, rfl, rfl⟩
          refine ⟨fun w hw => hw.selK [false, true, true] [false, false, false, false, false, false], ?_⟩
          refine AtH.f1 8 rfl (OpOk.alloc rfl rfl fun b11 hb11 => ⟨fun w hw => hw.selK [false, false, true, true] [false, false, false, false, false, false], ?_⟩)
          refine AtH.f1 10 rfl (OpOk.one true [] [hB 0] rfl ⟨rfl, fnd_one X gh hc g c gt tc⟩ ⟨fun w hw => hw.selK [false, false, true, true] [false, false, false, false, false, false], ?_⟩)
          refine AtH.f1 11 rfl (OpOk.one true [] [hB 1] rfl ⟨rfl, fnd_one Y gh' hc' g' c' gt' tc'⟩ ⟨fun w hw => hw.selK [false, false, true, true] [false, false, false, false, false, false], ?_⟩)
          refine AtH.dn ?_
          refine At.perm (List.Perm.swap _ _ _) (List.Perm.refl _) ?_
          exact At.weak (hk0 (⟨b11, gh, hc, g, c, gt, tc⟩, ⟨b12, gh', hc', g', c', gt', tc'⟩)) sB
        · refine AtH.f1 7 rfl (OpOk.call rfl (fun w' hw' => hVY w' hw'.ext) ?_)
          rintro _ _ _ ⟨gh', hc', g', c', gt', tc', rfl, rfl, rfl⟩
          refine ⟨fun w hw => hw.selK [false, false, true, true] [false, false, false, false, false, false], ?_⟩
          refine AtH.f1 10 rfl (OpOk.one true [] [hB 0] rfl ⟨rfl, fnd_one X gh hc g c gt tc⟩ ⟨fun w hw => hw.selK [false, false, true, true] [false, false, false, false, false, false], ?_⟩)
          refine AtH.f1 11 rfl (OpOk.one true [] [hB 1] rfl ⟨rfl, fnd_one Y gh' hc' g' c' gt' tc'⟩ ⟨fun w hw => hw.selK [false, false, true, true] [false, false, false, false, false, false], ?_⟩)
          refine AtH.dn ?_
          refine At.perm (List.Perm.swap _ _ _) (List.Perm.refl _) ?_
          exact At.weak (hk0 (⟨b11, gh, hc, g, c, gt, tc⟩, ⟨b12, gh', hc', g', c', gt', tc'⟩)) sB
    · refine AtH.fork2 3 9 (by kernel_rfl) rfl rfl rfl rfl rfl rfl (OpOk.call rfl (fun w' hw' => hVX w' hw'.ext) ?_) (OpOk.alloc rfl rfl fun b12 hb12 => ⟨fun w hw => hw.selK [false, false, true, true] [], ?_⟩)
      · rintro _ _ _ ⟨gh, hc, g, c, gt, tc, rfl, rfl, rfl⟩
        refine ⟨fun w hw => hw.selK [false, true, true] [false, false, false], ?_⟩
        refine AtH.fork2 7 9 (by kernel_rfl) rfl rfl rfl rfl rfl rfl (OpOk.call rfl (fun w' hw' => hVY w' hw'.ext) ?_) (OpOk.alloc rfl rfl fun b12 hb12 => ⟨fun w hw => hw.selK [false, false, true, true] [false, false, false], ?_⟩)
        · rintro _ _ _ ⟨gh', hc', g', c', gt', tc', rfl, rfl, rfl⟩
          refine ⟨fun w hw => hw.selK [false, true, true] [false, false, false, false, false, false], ?_⟩
          refine AtH.f1 9 rfl (OpOk.alloc rfl rfl fun b12 hb12 => ⟨fun w hw => hw.selK [false, false, true, true] [false, false, false, false, false, false], ?_⟩)
          refine AtH.f1 10 rfl (OpOk.one true [] [hB 1] rfl ⟨rfl, fnd_one X gh hc g c gt tc⟩ ⟨fun w hw => hw.selK [false, false, true, true] [false, false, false, false, false, false], ?_⟩)
          refine AtH.f1 11 rfl (OpOk.one true [] [hB 0] rfl ⟨rfl, fnd_one Y gh' hc' g' c' gt' tc'⟩ ⟨fun w hw => hw.selK [false, false, true, true] [false, false, false, false, false, false], ?_⟩)
          refine AtH.dn ?_
          exact At.weak (hk0 (⟨b11, gh, hc, g, c, gt, tc⟩, ⟨b12, gh', hc', g', c', gt', tc'⟩)) sB
        · refine AtH.f1 7 rfl (OpOk.call rfl (fun w' hw' => hVY w' hw'.ext) ?_)
          rintro _ _ _ ⟨gh', hc', g', c', gt', tc', rfl, rfl, rfl⟩
          refine ⟨fun w hw => hw.selK [false, false, true, true] [false, false, false, false, false, false], ?_⟩
          refine AtH.f1 10 rfl (OpOk.one true [] [hB 1] rfl ⟨rfl, fnd_one X gh hc g c gt tc⟩ ⟨fun w hw => hw.selK [false, false, true, true] [false, false, false, false, false, false], ?_⟩)
          refine AtH.f1 11 rfl (OpOk.one true [] [hB 0] rfl ⟨rfl, fnd_one Y gh' hc' g' c' gt' tc'⟩ ⟨fun w hw => hw.selK [false, false, true, true] [false, false, false, false, false, false], ?_⟩)
          refine AtH.dn ?_
          exact At.weak (hk0 (⟨b11, gh, hc, g, c, gt, tc⟩, ⟨b12, gh', hc', g', c', gt', tc'⟩)) sB
      · refine AtH.f1 3 rfl (OpOk.call rfl (fun w' hw' => hVX w' hw'.ext) ?_)
        rintro _ _ _ ⟨gh, hc, g, c, gt, tc, rfl, rfl, rfl⟩
        refine ⟨fun w hw => hw.selK [false, false, true, true] [false, false, false], ?_⟩
        refine AtH.f1 7 rfl (OpOk.call rfl (fun w' hw' => hVY w' hw'.ext) ?_)
        rintro _ _ _ ⟨gh', hc', g', c', gt', tc', rfl, rfl, rfl⟩
        refine ⟨fun w hw => hw.selK [false, false, true, true] [false, false, false, false, false, false], ?_⟩
        refine AtH.f1 10 rfl (OpOk.one true [] [hB 1] rfl ⟨rfl, fnd_one X gh hc g c gt tc⟩ ⟨fun w hw => hw.selK [false, false, true, true] [false, false, false, false, false, false], ?_⟩)
        refine AtH.f1 11 rfl (OpOk.one true [] [hB 0] rfl ⟨rfl, fnd_one Y gh' hc' g' c' gt' tc'⟩ ⟨fun w hw => hw.selK [false, false, true, true] [false, false, false, false, false, false], ?_⟩)
        refine AtH.dn ?_
        exact At.weak (hk0 (⟨b11, gh, hc, g, c, gt, tc⟩, ⟨b12, gh', hc', g', c', gt', tc'⟩)) sB
    · refine AtH.fork2 3 8 (by kernel_rfl) rfl rfl rfl rfl rfl rfl (OpOk.call rfl (fun w' hw' => hVX w' hw'.ext) ?_) (OpOk.alloc rfl rfl fun b11 hb11 => ⟨fun w hw => hw.selK [false, false, true, true] [], ?_⟩)
      · rintro _ _ _ ⟨gh, hc, g, c, gt, tc, rfl, rfl, rfl⟩
        refine ⟨fun w hw => hw.selK [false, true, true] [false, false, false], ?_⟩
        refine AtH.fork2 7 8 (by kernel_rfl) rfl rfl rfl rfl rfl rfl (OpOk.call rfl (fun w' hw' => hVY w' hw'.ext) ?_) (OpOk.alloc rfl rfl fun b11 hb11 => ⟨fun w hw => hw.selK [false, false, true, true] [false, false, false], ?_⟩)
        · rintro _ _ _ ⟨gh', hc', g', c', gt', tc', rfl, rfl, rfl⟩
          refine ⟨fun w hw => hw.selK [false, true, true] [false, false, false, false, false, false], ?_⟩
          refine AtH.f1 8 rfl (OpOk.alloc rfl rfl fun b11 hb11 => ⟨fun w hw => hw.selK [false, false, true, true] [false, false, false, false, false, false], ?_⟩)
          refine AtH.f1 10 rfl (OpOk.one true [] [hB 0] rfl ⟨rfl, fnd_one X gh hc g c gt tc⟩ ⟨fun w hw => hw.selK [false, false, true, true] [false, false, false, false, false, false], ?_⟩)
          refine AtH.f1 11 rfl (OpOk.one true [] [hB 1] rfl ⟨rfl, fnd_one Y gh' hc' g' c' gt' tc'⟩ ⟨fun w hw => hw.selK [false, false, true, true] [false, false, false, false, false, false], ?_⟩)
          refine AtH.dn ?_
          refine At.perm (List.Perm.swap _ _ _) (List.Perm.refl _) ?_
          exact At.weak (hk0 (⟨b11, gh, hc, g, c, gt, tc⟩, ⟨b12, gh', hc', g', c', gt', tc'⟩)) sB
        · refine AtH.f1 7 rfl (OpOk.call rfl (fun w' hw' => hVY w' hw'.ext) ?_)
          rintro _ _ _ ⟨gh', hc', g', c', gt', tc', rfl, rfl, rfl⟩
          refine ⟨fun w hw => hw.selK [false, false, true, true] [false, false, false, false, false, false], ?_⟩
          refine AtH.f1 10 rfl (OpOk.one true [] [hB 0] rfl ⟨rfl, fnd_one X gh hc g c gt tc⟩ ⟨fun w hw => hw.selK [false, false, true, true] [false, false, false, false, false, false], ?_⟩)
          refine AtH.f1 11 rfl (OpOk.one true [] [hB 1] rfl ⟨rfl, fnd_one Y gh' hc' g' c' gt' tc'⟩ ⟨fun w hw => hw.selK [false, false, true, true] [false, false, false, false, false, false], ?_⟩)
          refine AtH.dn ?_
          refine At.perm (List.Perm.swap _ _ _) (List.Perm.refl _) ?_
          exact At.weak (hk0 (⟨b11, gh, hc, g, c, gt, tc⟩, ⟨b12, gh', hc', g', c', gt', tc'⟩)) sB
      · refine AtH.f1 3 rfl (OpOk.call rfl (fun w' hw' => hVX w' hw'.ext) ?_)
        rintro _ _ _ ⟨gh, hc, g, c, gt, tc, rfl, rfl, rfl⟩
        refine ⟨fun w hw => hw.selK [false, false, true, true] [false, false, false], ?_⟩
        refine AtH.f1 7 rfl (OpOk.call rfl (fun w' hw' => hVY w' hw'.ext) ?_)
        rintro _ _ _ ⟨gh', hc', g', c', gt', tc', rfl, rfl, rfl⟩
        refine ⟨fun w hw => hw.selK [false, false, true, true] [false, false, false, false, false, false], ?_⟩
        refine AtH.f1 10 rfl (OpOk.one true [] [hB 0] rfl ⟨rfl, fnd_one X gh hc g c gt tc⟩ ⟨fun w hw => hw.selK [false, false, true, true] [false, false, false, false, false, false], ?_⟩)
        refine AtH.f1 11 rfl (OpOk.one true [] [hB 1] rfl ⟨rfl, fnd_one Y gh' hc' g' c' gt' tc'⟩ ⟨fun w hw => hw.selK [false, false, true, true] [false, false, false, false, false, false], ?_⟩)
        refine AtH.dn ?_
        refine At.perm (List.Perm.swap _ _ _) (List.Perm.refl _) ?_
        exact At.weak (hk0 (⟨b11, gh, hc, g, c, gt, tc⟩, ⟨b12, gh', hc', g', c', gt', tc'⟩)) sB
  rintro ⟨⟨b11, gh, hc, g, c, gt, tc⟩, ⟨b12, gh', hc', g', c', gt', tc'⟩⟩
  dsimp only [Tryz.fndR, List.cons_append, List.nil_append]
  by_cases e1 : X.e = 0
  rotate_left
  · have hE : bothE n X Y = X.e := by unfold bothE; rw [if_pos e1]
    rw [twB_bad (by rw [hE]; exact e1), hE]
    refine At.go [true] [hB 1] rfl (by and_intros <;> first | (simp [e1]; done) | (simp [fndV, Value.oneCell', sv]; done) | exact oK) ?_
    refine At.qt [] [hB 1] rfl rfl (by and_intros <;> first | (simp; done) | (simp [fndV, Value.oneCell', sv]; done) | exact oK) ?_
    refine At.go [] [] rfl (by and_intros <;> first | (simp; done) | (simp [fndV, Value.oneCell', sv]; done) | exact oK) ?_
    refine At.rt [] [] [] Tryz.func30 ?_
    exact ⟨rfl, rfl, rfl⟩
  by_cases e2 : Y.e = 0
  rotate_left
  · have hE : bothE n X Y = Y.e := by unfold bothE; rw [if_neg (Classical.not_not.2 e1), if_pos e2]
    rw [twB_bad (by rw [hE]; exact e2), hE]
    refine At.go [false, true] [hB 1, hB 0] rfl (by and_intros <;> first | (simp [e1]; done) | (simp [e2]; done) | (simp [fndV, Value.oneCell', sv]; done) | exact oK) ?_
    refine At.qt [] [hB 0] rfl rfl (by and_intros <;> first | (simp; done) | (simp [fndV, e2]; done) | (simp [fndV, Value.oneCell', sv]; done) | exact oK) ?_
    refine At.go [] [] rfl (by and_intros <;> first | (simp; done) | (simp [fndV, e2]; done) | (simp [fndV, Value.oneCell', sv]; done) | exact oK) ?_
    refine At.rt [] [] [] Tryz.func30 ?_
    exact ⟨rfl, rfl, rfl⟩
  have o1 := o1 e1
  have o2 := o2 e2
  have s1 : sealD n X = ((chainB n X.H).1, X.H.length, X.R.length) := by unfold sealD; rw [if_neg (Classical.not_not.2 e1)]
  have s2 : sealD n Y = ((chainB n Y.H).1, Y.H.length, Y.R.length) := by unfold sealD; rw [if_neg (Classical.not_not.2 e2)]
  have fSX : ∀ {bx : Bx} {hp : List Seg}, nth hp 5 = some (Seg.row gh 55 6 X.H.length hc (X.H.flatMap hdC)) → CallOb Tryz.prog ⟨w, kys [] []⟩ bx hp 17 [.agg ⟨keyC⟩, .agg ⟨[.int .i64 P, .int .i64 n, .int .i64 c3, .int .i64 c4]⟩, .agg ⟨[sv gh X.H.length hc, sv g X.R.length c, sv gt X.T.length tc, .int .i64 X.at_, .int .i64 X.e]⟩] (.agg ⟨sdC (sealD n X)⟩) := fun {_ _} h w' hw' =>
    Tryz.r22Sealed_w X n P c3 c4 gh hc g c gt tc w' (by omega) (by omega) (fun x hx => by have := mayH_in (o1.may hx); omega) (SlOk.row (hw'.hp _ (nth_mem h)))
  have fSY : ∀ {bx : Bx} {hp : List Seg}, nth hp 2 = some (Seg.row gh' 55 6 Y.H.length hc' (Y.H.flatMap hdC)) → CallOb Tryz.prog ⟨w, kys [] []⟩ bx hp 17 [.agg ⟨keyC⟩, .agg ⟨[.int .i64 P, .int .i64 n, .int .i64 c3, .int .i64 c4]⟩, .agg ⟨[sv gh' Y.H.length hc', sv g' Y.R.length c', sv gt' Y.T.length tc', .int .i64 Y.at_, .int .i64 Y.e]⟩] (.agg ⟨sdC (sealD n Y)⟩) := fun {_ _} h w' hw' =>
    Tryz.r22Sealed_w Y n P c3 c4 gh' hc' g' c' gt' tc' w' (by omega) (by omega) (fun x hx => by have := mayH_in (o2.may hx); omega) (SlOk.row (hw'.hp _ (nth_mem h)))
  have fE : ∀ {bx : Bx} {hp : List Seg}, nth hp 4 = some (Seg.row g 9 1 X.R.length c (X.R.map str)) → nth hp 1 = some (Seg.row g' 9 1 Y.R.length c' (Y.R.map str)) → CallOb Tryz.prog ⟨w, kys [] []⟩ bx hp 19 [.slice (svA g) X.R.length c, .slice (svA g') Y.R.length c'] (.bool (decide (X.R = Y.R))) := fun {_ _} h1 h2 w' hw' =>
    Tryz.same03_w X.R Y.R (svA g) (svA g') c c' w' (by omega) (by omega) (SlOk.row (hw'.hp _ (nth_mem h1))) (SlOk.row (hw'.hp _ (nth_mem h2)))
  refine At.gn 22 [false, false] [hB 1, hB 0] rfl (by and_intros <;> first | (simp [e1]; done) | (simp [e2]; done) | (simp [fndV, Value.oneCell', sv]; done) | exact oK) ?_
  refine At.cutS (ι := Nat × Nat) ⟨1, [0, 1, 1, 1, 1], []⟩ (fun e => [(4, .pointer (some ⟨b4, 0, none⟩)), (7, .pointer (some ⟨b7, 0, none⟩)), (11, .pointer (some ⟨b11, 0, none⟩)), (12, .pointer (some ⟨b12, 0, none⟩)), (13, .pointer (some ⟨e.1, 0, none⟩)), (14, .pointer (some ⟨e.2, 0, none⟩))])
    (fun e => [(e.2, 28, sdC (sealD n Y)), (e.1, 28, sdC (sealD n X)), (b12, 43, fndV Y gh' hc' g' c' gt' tc'), (b11, 43, fndV X gh hc g c gt tc), (b7, 24, [.int .i64 P, .int .i64 n, .int .i64 c3, .int .i64 c4]), (b4, 38, keyC)]) (fun _ => Tryz.fndR Y gh' hc' g' c' gt' tc' ++ Tryz.fndR X gh hc g c gt tc) ?_ fun hk1 => ?_
  rotate_left
  · refine At.dr 12 ?_
    refine AtH.readsK [true, true, true, true] [true, true, true, true, true, true] [1, 2, 5, 6] [hB 2, hB 1, hB 2, hB 0] rfl rfl (by and_intros <;> first | (simp; done) | exact oK) rfl rfl (fuel := 8) ?_
    refine AtH.ld 0 (.agg ⟨keyC⟩) (Tryz.key_ld (i := 3) rfl) ?_
    refine AtH.ld 4 (.agg ⟨keyC⟩) (Tryz.key_ld (i := 3) rfl) ?_
    refine AtH.fork3 3 8 9 (by kernel_rfl) rfl rfl rfl rfl rfl rfl rfl rfl rfl (OpOk.one true [] [hC (.agg ⟨sdC (sealD n X)⟩)] rfl (fSX rfl) ⟨fun w hw => hw.selK [true, true, true, true] [true, true, true, true, true, true], ?_⟩) (OpOk.alloc rfl rfl fun b13 hb13 => ⟨fun w hw => hw.selK [false, true, true, true, true] [true, true, true, true, true, true], ?_⟩) (OpOk.alloc rfl rfl fun b14 hb14 => ⟨fun w hw => hw.selK [false, true, true, true, true] [true, true, true, true, true, true], ?_⟩)
    · refine AtH.fork3 7 8 9 (by kernel_rfl) rfl rfl rfl rfl rfl rfl rfl rfl rfl (OpOk.one true [] [hC (.agg ⟨sdC (sealD n Y)⟩)] rfl (fSY rfl) ⟨fun w hw => hw.selK [true, true, true, true] [true, true, true, true, true, true], ?_⟩) (OpOk.alloc rfl rfl fun b13 hb13 => ⟨fun w hw => hw.selK [false, true, true, true, true] [true, true, true, true, true, true], ?_⟩) (OpOk.alloc rfl rfl fun b14 hb14 => ⟨fun w hw => hw.selK [false, true, true, true, true] [true, true, true, true, true, true], ?_⟩)
      · refine AtH.fork2 8 9 (by kernel_rfl) rfl rfl rfl rfl rfl rfl (OpOk.alloc rfl rfl fun b13 hb13 => ⟨fun w hw => hw.selK [false, true, true, true, true] [true, true, true, true, true, true], ?_⟩) (OpOk.alloc rfl rfl fun b14 hb14 => ⟨fun w hw => hw.selK [false, true, true, true, true] [true, true, true, true, true, true], ?_⟩)
        · refine AtH.f1 9 rfl (OpOk.alloc rfl rfl fun b14 hb14 => ⟨fun w hw => hw.selK [false, false, true, true, true, true] [true, true, true, true, true, true], ?_⟩)
          refine AtH.f1 10 rfl (OpOk.one true [] [hB 1] rfl ⟨rfl, sdC_one _⟩ ⟨fun w hw => hw.selK [false, false, true, true, true, true] [true, true, true, true, true, true], ?_⟩)
          refine AtH.f1 11 rfl (OpOk.one true [] [hB 0] rfl ⟨rfl, sdC_one _⟩ ⟨fun w hw => hw.selK [false, false, true, true, true, true] [true, true, true, true, true, true], ?_⟩)
          refine AtH.dn ?_
          exact At.weak (hk1 (b13, b14)) sB
        · refine AtH.f1 8 rfl (OpOk.alloc rfl rfl fun b13 hb13 => ⟨fun w hw => hw.selK [false, false, true, true, true, true] [true, true, true, true, true, true], ?_⟩)
          refine AtH.f1 10 rfl (OpOk.one true [] [hB 0] rfl ⟨rfl, sdC_one _⟩ ⟨fun w hw => hw.selK [false, false, true, true, true, true] [true, true, true, true, true, true], ?_⟩)
          refine AtH.f1 11 rfl (OpOk.one true [] [hB 1] rfl ⟨rfl, sdC_one _⟩ ⟨fun w hw => hw.selK [false, false, true, true, true, true] [true, true, true, true, true, true], ?_⟩)
          refine AtH.dn ?_
          refine At.perm (List.Perm.swap _ _ _) (List.Perm.refl _) ?_
          exact At.weak (hk1 (b13, b14)) sB
      · refine AtH.fork2 7 9 (by kernel_rfl) rfl rfl rfl rfl rfl rfl (OpOk.one true [] [hC (.agg ⟨sdC (sealD n Y)⟩)] rfl (fSY rfl) ⟨fun w hw => hw.selK [false, true, true, true, true] [true, true, true, true, true, true], ?_⟩) (OpOk.alloc rfl rfl fun b14 hb14 => ⟨fun w hw => hw.selK [false, false, true, true, true, true] [true, true, true, true, true, true], ?_⟩)
        · refine AtH.f1 9 rfl (OpOk.alloc rfl rfl fun b14 hb14 => ⟨fun w hw => hw.selK [false, false, true, true, true, true] [true, true, true, true, true, true], ?_⟩)
          refine AtH.f1 10 rfl (OpOk.one true [] [hB 1] rfl ⟨rfl, sdC_one _⟩ ⟨fun w hw => hw.selK [false, false, true, true, true, true] [true, true, true, true, true, true], ?_⟩)
          refine AtH.f1 11 rfl (OpOk.one true [] [hB 0] rfl ⟨rfl, sdC_one _⟩ ⟨fun w hw => hw.selK [false, false, true, true, true, true] [true, true, true, true, true, true], ?_⟩)
          refine AtH.dn ?_
          exact At.weak (hk1 (b13, b14)) sB
        · refine AtH.f1 7 rfl (OpOk.one true [] [hC (.agg ⟨sdC (sealD n Y)⟩)] rfl (fSY rfl) ⟨fun w hw => hw.selK [false, false, true, true, true, true] [true, true, true, true, true, true], ?_⟩)
          refine AtH.f1 10 rfl (OpOk.one true [] [hB 1] rfl ⟨rfl, sdC_one _⟩ ⟨fun w hw => hw.selK [false, false, true, true, true, true] [true, true, true, true, true, true], ?_⟩)
          refine AtH.f1 11 rfl (OpOk.one true [] [hB 0] rfl ⟨rfl, sdC_one _⟩ ⟨fun w hw => hw.selK [false, false, true, true, true, true] [true, true, true, true, true, true], ?_⟩)
          refine AtH.dn ?_
          exact At.weak (hk1 (b13, b14)) sB
      · refine AtH.fork2 7 8 (by kernel_rfl) rfl rfl rfl rfl rfl rfl (OpOk.one true [] [hC (.agg ⟨sdC (sealD n Y)⟩)] rfl (fSY rfl) ⟨fun w hw => hw.selK [false, true, true, true, true] [true, true, true, true, true, true], ?_⟩) (OpOk.alloc rfl rfl fun b13 hb13 => ⟨fun w hw => hw.selK [false, false, true, true, true, true] [true, true, true, true, true, true], ?_⟩)
        · refine AtH.f1 8 rfl (OpOk.alloc rfl rfl fun b13 hb13 => ⟨fun w hw => hw.selK [false, false, true, true, true, true] [true, true, true, true, true, true], ?_⟩)
          refine AtH.f1 10 rfl (OpOk.one true [] [hB 0] rfl ⟨rfl, sdC_one _⟩ ⟨fun w hw => hw.selK [false, false, true, true, true, true] [true, true, true, true, true, true], ?_⟩)
          refine AtH.f1 11 rfl (OpOk.one true [] [hB 1] rfl ⟨rfl, sdC_one _⟩ ⟨fun w hw => hw.selK [false, false, true, true, true, true] [true, true, true, true, true, true], ?_⟩)
          refine AtH.dn ?_
          refine At.perm (List.Perm.swap _ _ _) (List.Perm.refl _) ?_
          exact At.weak (hk1 (b13, b14)) sB
        · refine AtH.f1 7 rfl (OpOk.one true [] [hC (.agg ⟨sdC (sealD n Y)⟩)] rfl (fSY rfl) ⟨fun w hw => hw.selK [false, false, true, true, true, true] [true, true, true, true, true, true], ?_⟩)
          refine AtH.f1 10 rfl (OpOk.one true [] [hB 0] rfl ⟨rfl, sdC_one _⟩ ⟨fun w hw => hw.selK [false, false, true, true, true, true] [true, true, true, true, true, true], ?_⟩)
          refine AtH.f1 11 rfl (OpOk.one true [] [hB 1] rfl ⟨rfl, sdC_one _⟩ ⟨fun w hw => hw.selK [false, false, true, true, true, true] [true, true, true, true, true, true], ?_⟩)
          refine AtH.dn ?_
          refine At.perm (List.Perm.swap _ _ _) (List.Perm.refl _) ?_
          exact At.weak (hk1 (b13, b14)) sB
    · refine AtH.fork2 3 9 (by kernel_rfl) rfl rfl rfl rfl rfl rfl (OpOk.one true [] [hC (.agg ⟨sdC (sealD n X)⟩)] rfl (fSX rfl) ⟨fun w hw => hw.selK [false, true, true, true, true] [true, true, true, true, true, true], ?_⟩) (OpOk.alloc rfl rfl fun b14 hb14 => ⟨fun w hw => hw.selK [false, false, true, true, true, true] [true, true, true, true, true, true], ?_⟩)
      · refine AtH.fork2 7 9 (by kernel_rfl) rfl rfl rfl rfl rfl rfl (OpOk.one true [] [hC (.agg ⟨sdC (sealD n Y)⟩)] rfl (fSY rfl) ⟨fun w hw => hw.selK [false, true, true, true, true] [true, true, true, true, true, true], ?_⟩) (OpOk.alloc rfl rfl fun b14 hb14 => ⟨fun w hw => hw.selK [false, false, true, true, true, true] [true, true, true, true, true, true], ?_⟩)
        · refine AtH.f1 9 rfl (OpOk.alloc rfl rfl fun b14 hb14 => ⟨fun w hw => hw.selK [false, false, true, true, true, true] [true, true, true, true, true, true], ?_⟩)
          refine AtH.f1 10 rfl (OpOk.one true [] [hB 1] rfl ⟨rfl, sdC_one _⟩ ⟨fun w hw => hw.selK [false, false, true, true, true, true] [true, true, true, true, true, true], ?_⟩)
          refine AtH.f1 11 rfl (OpOk.one true [] [hB 0] rfl ⟨rfl, sdC_one _⟩ ⟨fun w hw => hw.selK [false, false, true, true, true, true] [true, true, true, true, true, true], ?_⟩)
          refine AtH.dn ?_
          exact At.weak (hk1 (b13, b14)) sB
        · refine AtH.f1 7 rfl (OpOk.one true [] [hC (.agg ⟨sdC (sealD n Y)⟩)] rfl (fSY rfl) ⟨fun w hw => hw.selK [false, false, true, true, true, true] [true, true, true, true, true, true], ?_⟩)
          refine AtH.f1 10 rfl (OpOk.one true [] [hB 1] rfl ⟨rfl, sdC_one _⟩ ⟨fun w hw => hw.selK [false, false, true, true, true, true] [true, true, true, true, true, true], ?_⟩)
          refine AtH.f1 11 rfl (OpOk.one true [] [hB 0] rfl ⟨rfl, sdC_one _⟩ ⟨fun w hw => hw.selK [false, false, true, true, true, true] [true, true, true, true, true, true], ?_⟩)
          refine AtH.dn ?_
          exact At.weak (hk1 (b13, b14)) sB
      · refine AtH.f1 3 rfl (OpOk.one true [] [hC (.agg ⟨sdC (sealD n X)⟩)] rfl (fSX rfl) ⟨fun w hw => hw.selK [false, false, true, true, true, true] [true, true, true, true, true, true], ?_⟩)
        refine AtH.f1 7 rfl (OpOk.one true [] [hC (.agg ⟨sdC (sealD n Y)⟩)] rfl (fSY rfl) ⟨fun w hw => hw.selK [false, false, true, true, true, true] [true, true, true, true, true, true], ?_⟩)
        refine AtH.f1 10 rfl (OpOk.one true [] [hB 1] rfl ⟨rfl, sdC_one _⟩ ⟨fun w hw => hw.selK [false, false, true, true, true, true] [true, true, true, true, true, true], ?_⟩)
        refine AtH.f1 11 rfl (OpOk.one true [] [hB 0] rfl ⟨rfl, sdC_one _⟩ ⟨fun w hw => hw.selK [false, false, true, true, true, true] [true, true, true, true, true, true], ?_⟩)
        refine AtH.dn ?_
        exact At.weak (hk1 (b13, b14)) sB
    · refine AtH.fork2 3 8 (by kernel_rfl) rfl rfl rfl rfl rfl rfl (OpOk.one true [] [hC (.agg ⟨sdC (sealD n X)⟩)] rfl (fSX rfl) ⟨fun w hw => hw.selK [false, true, true, true, true] [true, true, true, true, true, true], ?_⟩) (OpOk.alloc rfl rfl fun b13 hb13 => ⟨fun w hw => hw.selK [false, false, true, true, true, true] [true, true, true, true, true, true], ?_⟩)
      · refine AtH.fork2 7 8 (by kernel_rfl) rfl rfl rfl rfl rfl rfl (OpOk.one true [] [hC (.agg ⟨sdC (sealD n Y)⟩)] rfl (fSY rfl) ⟨fun w hw => hw.selK [false, true, true, true, true] [true, true, true, true, true, true], ?_⟩) (OpOk.alloc rfl rfl fun b13 hb13 => ⟨fun w hw => hw.selK [false, false, true, true, true, true] [true, true, true, true, true, true], ?_⟩)
        · refine AtH.f1 8 rfl (OpOk.alloc rfl rfl fun b13 hb13 => ⟨fun w hw => hw.selK [false, false, true, true, true, true] [true, true, true, true, true, true], ?_⟩)
          refine AtH.f1 10 rfl (OpOk.one true [] [hB 0] rfl ⟨rfl, sdC_one _⟩ ⟨fun w hw => hw.selK [false, false, true, true, true, true] [true, true, true, true, true, true], ?_⟩)
          refine AtH.f1 11 rfl (OpOk.one true [] [hB 1] rfl ⟨rfl, sdC_one _⟩ ⟨fun w hw => hw.selK [false, false, true, true, true, true] [true, true, true, true, true, true], ?_⟩)
          refine AtH.dn ?_
          refine At.perm (List.Perm.swap _ _ _) (List.Perm.refl _) ?_
          exact At.weak (hk1 (b13, b14)) sB
        · refine AtH.f1 7 rfl (OpOk.one true [] [hC (.agg ⟨sdC (sealD n Y)⟩)] rfl (fSY rfl) ⟨fun w hw => hw.selK [false, false, true, true, true, true] [true, true, true, true, true, true], ?_⟩)
          refine AtH.f1 10 rfl (OpOk.one true [] [hB 0] rfl ⟨rfl, sdC_one _⟩ ⟨fun w hw => hw.selK [false, false, true, true, true, true] [true, true, true, true, true, true], ?_⟩)
          refine AtH.f1 11 rfl (OpOk.one true [] [hB 1] rfl ⟨rfl, sdC_one _⟩ ⟨fun w hw => hw.selK [false, false, true, true, true, true] [true, true, true, true, true, true], ?_⟩)
          refine AtH.dn ?_
          refine At.perm (List.Perm.swap _ _ _) (List.Perm.refl _) ?_
          exact At.weak (hk1 (b13, b14)) sB
      · refine AtH.f1 3 rfl (OpOk.one true [] [hC (.agg ⟨sdC (sealD n X)⟩)] rfl (fSX rfl) ⟨fun w hw => hw.selK [false, false, true, true, true, true] [true, true, true, true, true, true], ?_⟩)
        refine AtH.f1 7 rfl (OpOk.one true [] [hC (.agg ⟨sdC (sealD n Y)⟩)] rfl (fSY rfl) ⟨fun w hw => hw.selK [false, false, true, true, true, true] [true, true, true, true, true, true], ?_⟩)
        refine AtH.f1 10 rfl (OpOk.one true [] [hB 0] rfl ⟨rfl, sdC_one _⟩ ⟨fun w hw => hw.selK [false, false, true, true, true, true] [true, true, true, true, true, true], ?_⟩)
        refine AtH.f1 11 rfl (OpOk.one true [] [hB 1] rfl ⟨rfl, sdC_one _⟩ ⟨fun w hw => hw.selK [false, false, true, true, true, true] [true, true, true, true, true, true], ?_⟩)
        refine AtH.dn ?_
        refine At.perm (List.Perm.swap _ _ _) (List.Perm.refl _) ?_
        exact At.weak (hk1 (b13, b14)) sB
  rintro ⟨b13, b14⟩
  dsimp only
  rw [s1, s2]
  dsimp only [sdC]
  by_cases h3 : (chainB n X.H).1 = (chainB n Y.H).1
  rotate_left
  · have hE : bothE n X Y = 12 := by unfold bothE; rw [if_neg (Classical.not_not.2 e1), if_neg (Classical.not_not.2 e2), if_pos (.inl h3)]
    rw [twB_bad (by rw [hE]; decide), hE]
    refine At.go [true, true] [hB 1, hB 0] rfl (by and_intros <;> first | (simp [h3]; done) | exact oK) ?_
    refine At.rt [] [] [] Tryz.func30 ?_
    exact ⟨rfl, rfl, rfl⟩
  by_cases h4 : X.H.length = Y.H.length
  rotate_left
  · have hE : bothE n X Y = 12 := by unfold bothE; rw [if_neg (Classical.not_not.2 e1), if_neg (Classical.not_not.2 e2), if_pos (.inr h4)]
    rw [twB_bad (by rw [hE]; decide), hE]
    refine At.go [false, true] [hB 1, hB 0, hB 1, hB 0] rfl (by and_intros <;> first | (simp [h3]; done) | (simp; omega) | exact oK) ?_
    refine At.rt [] [] [] Tryz.func30 ?_
    exact ⟨rfl, rfl, rfl⟩
  have hE : bothE n X Y = 0 := by unfold bothE; rw [if_neg (Classical.not_not.2 e1), if_neg (Classical.not_not.2 e2), if_neg (by simp [h3, h4])]
  rw [twB_zero hE]
  by_cases gR : X.R = Y.R
  · rw [if_pos gR]
    refine At.go [false, false, true] [hB 1, hB 0, hB 1, hB 0, hB 3, hB 2, hC (.bool (decide (X.R = Y.R)))] rfl (by and_intros <;> first | exact fE rfl rfl | (simp [h3]; done) | (simp [h4]; done) | exact decide_eq_true gR | exact oK) ?_
    refine At.rt [] [] [] Tryz.func30 ?_
    exact ⟨rfl, rfl, rfl⟩
  rw [if_neg gR]
  refine At.go [false, false, false] [hB 1, hB 0, hB 1, hB 0, hB 3, hB 2, hC (.bool (decide (X.R = Y.R))), hB 3] rfl (by and_intros <;> first | exact fE rfl rfl | (simp [h3]; done) | (simp [h4]; done) | exact decide_eq_false gR | exact oK) ?_
  have hi1 := o1.fit
  have hi2 := o2.fit
  have hl1 := o1.sl
  have hl2 := o2.sl
  rw [← h4] at hi2 hl2
  by_cases h0 : X.H.length = 0
  · exact absurd (List.ext_getElem? fun j => by rw [List.getElem?_eq_none (by have := o1.len; rw [h0, Nat.mul_zero] at this; omega), List.getElem?_eq_none (by have := o2.len; rw [← h4, h0, Nat.mul_zero] at this; omega)]) gR
  refine At.rowCap 1 rfl fun hc2 => ?_
  refine At.rowCap 4 rfl fun hc1 => ?_
  refine At.rowSome 5 rfl (by omega) fun qx hqx => ?_
  subst hqx
  refine At.rowSome 2 rfl (by omega) fun qy hqy => ?_
  subst hqy
  refine At.loop (env0 := [(4, .pointer (some ⟨b4, 0, none⟩)), (7, .pointer (some ⟨b7, 0, none⟩)), (11, .pointer (some ⟨b11, 0, none⟩)), (12, .pointer (some ⟨b12, 0, none⟩)), (15, .int .i64 (↑X.H.length - 1))]) (fun m_ env bx hp => ∃ (i : Nat), m_ = i + 1 ∧ (i ≤ X.H.length) ∧ (∀ j, i ≤ j → j < X.H.length → hdAt X.H j = hdAt Y.H j) ∧ env = [(4, .pointer (some ⟨b4, 0, none⟩)), (7, .pointer (some ⟨b7, 0, none⟩)), (11, .pointer (some ⟨b11, 0, none⟩)), (12, .pointer (some ⟨b12, 0, none⟩)), (15, .int .i64 ((i : Int) - 1))] ∧ bx = [(b14, 28, [.string { data := (chainB n Y.H).fst.toArray }, .int .i64 ↑Y.H.length, .int .i64 ↑Y.R.length]), (b13, 28, [.string { data := (chainB n X.H).fst.toArray }, .int .i64 ↑X.H.length, .int .i64 ↑X.R.length]), (b12, 43, [.slice (some ⟨qy, 0, none⟩) Y.H.length hc', .slice (svA g') Y.R.length c', .slice (svA gt') Y.T.length tc', .int .i64 Y.at_, .int .i64 Y.e]), (b11, 43, [.slice (some ⟨qx, 0, none⟩) X.H.length hc, .slice (svA g) X.R.length c, .slice (svA gt) X.T.length tc, .int .i64 X.at_, .int .i64 X.e]), (b7, 24, [.int .i64 ↑P, .int .i64 ↑n, .int .i64 c3, .int .i64 c4]), (b4, 38, keyC)] ∧ hp = [Seg.row gt' 9 1 Y.T.length tc' (List.map str Y.T), Seg.row g' 9 1 Y.R.length c' (List.map str Y.R), Seg.row (some qy) 55 6 Y.H.length hc' (List.flatMap hdC Y.H), Seg.row gt 9 1 X.T.length tc (List.map str X.T), Seg.row g 9 1 X.R.length c (List.map str X.R), Seg.row (some qx) 55 6 X.H.length hc (List.flatMap hdC X.H)]) rfl
    ⟨X.H.length, rfl, (Nat.le_refl _), (fun j g1 g2 => by omega), rfl, rfl, rfl⟩ sB ?_
  rintro m_ env bx hp ⟨i, rfl, hi, hno, rfl, rfl, rfl⟩ iho
  by_cases hi0 : i = 0
  · subst hi0
    have hD : lastD X.H Y.H X.H.length = none := by
      cases hD : lastD X.H Y.H X.H.length with
      | none => rfl
      | some k => exact absurd (hno k (Nat.zero_le _) (lastD_some hD).1) (lastD_some hD).2.1
    obtain ⟨k0, g1, g2, g3, g4, g5⟩ := seg_clash o1 o2 h4 gR hD
    rw [twC_seg hD g1]
    refine At.go [false] [] rfl (by and_intros <;> first | exact decide_eq_false (by omega) | exact oK) ?_
    refine At.rowSome 4 rfl (by have := hi1 0 (by omega); omega) fun q hq => ?_
    subst hq
    refine At.rowSome 1 rfl (by have := hi2 0 (by omega); omega) fun q' hq' => ?_
    subst hq'
    refine At.loop (env0 := [(4, .pointer (some ⟨b4, 0, none⟩)), (7, .pointer (some ⟨b7, 0, none⟩)), (11, .pointer (some ⟨b11, 0, none⟩)), (12, .pointer (some ⟨b12, 0, none⟩)), (16, .int .i64 0)]) (fun m_ env bx hp => ∃ (j : Nat), m_ = k0 - j ∧ (j ≤ k0) ∧ env = [(4, .pointer (some ⟨b4, 0, none⟩)), (7, .pointer (some ⟨b7, 0, none⟩)), (11, .pointer (some ⟨b11, 0, none⟩)), (12, .pointer (some ⟨b12, 0, none⟩)), (16, .int .i64 (j : Int))] ∧ bx = [(b14, 28, [.string { data := (chainB n Y.H).fst.toArray }, .int .i64 ↑Y.H.length, .int .i64 ↑Y.R.length]), (b13, 28, [.string { data := (chainB n X.H).fst.toArray }, .int .i64 ↑X.H.length, .int .i64 ↑X.R.length]), (b12, 43, [.slice (some ⟨qy, 0, none⟩) Y.H.length hc', .slice (some ⟨q', 0, none⟩) Y.R.length c', .slice (svA gt') Y.T.length tc', .int .i64 Y.at_, .int .i64 Y.e]), (b11, 43, [.slice (some ⟨qx, 0, none⟩) X.H.length hc, .slice (some ⟨q, 0, none⟩) X.R.length c, .slice (svA gt) X.T.length tc, .int .i64 X.at_, .int .i64 X.e]), (b7, 24, [.int .i64 ↑P, .int .i64 ↑n, .int .i64 c3, .int .i64 c4]), (b4, 38, keyC)] ∧ hp = [Seg.row gt' 9 1 Y.T.length tc' (List.map str Y.T), Seg.row (some q') 9 1 Y.R.length c' (List.map str Y.R), Seg.row (some qy) 55 6 Y.H.length hc' (List.flatMap hdC Y.H), Seg.row gt 9 1 X.T.length tc (List.map str X.T), Seg.row (some q) 9 1 X.R.length c (List.map str X.R), Seg.row (some qx) 55 6 X.H.length hc (List.flatMap hdC X.H)]) rfl
      ⟨0, rfl, (Nat.zero_le _), rfl, rfl, rfl⟩ sB ?_
    rintro m_ env bx hp ⟨j, rfl, hj, rfl, rfl, rfl⟩ ihj
    have hg1 := hi1 j (by omega)
    have hg2 := hi2 j (by omega)
    rw [Nat.add_mul] at hg1 hg2
    have hL1 := hl1 j (by omega)
    have hL2 := hl2 j (by omega)
    obtain ⟨A, hA⟩ : ∃ A, j * P = A := ⟨_, rfl⟩
    rw [hA] at hg1 hg2
    have hA1 : (j : Int) * (P : Int) = (A : Int) := by rw [← hA]; simp
    have hA2 : ((j : Int) + 1) * (P : Int) = ((A + P : Nat) : Int) := by rw [Int.add_mul, hA1]; simp
    have hA4 : ((((j : Int) + 1) * (P : Int)).toNat - ((j : Int) * (P : Int)).toNat) = P := by rw [hA1, hA2]; omega
    have hA5 : (((j : Int) * (P : Int)).toNat) = A := by rw [hA1]; omega
    have fS : ∀ {bx : Bx} {hp : List Seg}, nth hp 4 = some (Seg.row (some q) 9 1 X.R.length c (X.R.map str)) → nth hp 1 = some (Seg.row (some q') 9 1 Y.R.length c' (Y.R.map str)) → CallOb Tryz.prog ⟨w, kys [] []⟩ bx hp 19 [.slice (some ⟨q, 0 + ((j : Int) * (P : Int)).toNat * 1, none⟩) ((((j : Int) + 1) * (P : Int)).toNat - ((j : Int) * (P : Int)).toNat) (c - ((j : Int) * (P : Int)).toNat), .slice (some ⟨q', 0 + ((j : Int) * (P : Int)).toNat * 1, none⟩) ((((j : Int) + 1) * (P : Int)).toNat - ((j : Int) * (P : Int)).toNat) (c' - ((j : Int) * (P : Int)).toNat)] (.bool (decide (segK P X.R j = segK P Y.R j))) := fun {_ _} h1 h2 w' hw' => by
      have s1 := SlOk.rowsT P (SlOk.rowsD (j * P) (SlOk.row (hw'.hp _ (nth_mem h1)) : SlOk w' (some ⟨q, 0, none⟩) (X.R.map str)))
      have s2 := SlOk.rowsT P (SlOk.rowsD (j * P) (SlOk.row (hw'.hp _ (nth_mem h2)) : SlOk w' (some ⟨q', 0, none⟩) (Y.R.map str)))
      have := Tryz.same03_w (segK P X.R j) (segK P Y.R j) _ _ (c - A) (c' - A) w' (by rw [hL1]; omega) (by rw [hL2]; omega) s1 s2
      rw [hA4, hA5, Nat.mul_one]
      rwa [hL1, hL2, hA] at this
    by_cases hjs : segK P X.R j = segK P Y.R j
    · have hjk : j ≠ k0 := fun e => g3 (by rw [← e]; exact hjs)
      refine At.go [true] [hB 3] rfl (by and_intros <;> first | exact fS rfl rfl | (simp; done) | omega | exact decide_eq_true (by omega) | exact oK) ?_
      refine At.qt [] [hB 3, hB 4, hB 4, hB 2, hB 4, hB 4] rfl rfl (by and_intros <;> first | exact fS rfl rfl | (simp; done) | omega | exact decide_eq_true (by omega) | exact oK) ?_
      refine At.go [false] [hC (.bool (decide (segK P X.R j = segK P Y.R j)))] rfl (by and_intros <;> first | exact fS rfl rfl | (simp [hjs]; done) | omega | exact decide_eq_true (by omega) | exact oK) ?_
      exact At.weak (ihj _ _ _ _ (by omega) ⟨j + 1, rfl, by omega, rfl, rfl, rfl⟩) sB
    · have hjk : j = k0 := Classical.byContradiction fun e => hjs (g5 j (by omega))
      subst hjk
      have fF : ∀ {bx : Bx} {hp : List Seg}, nth hp 4 = some (Seg.row (some q) 9 1 X.R.length c (X.R.map str)) → nth hp 1 = some (Seg.row (some q') 9 1 Y.R.length c' (Y.R.map str)) → CallOb Tryz.prog ⟨w, kys [] []⟩ bx hp 58 [.agg ⟨keyC⟩, .slice (some ⟨q, 0 + ((j : Int) * (P : Int)).toNat * 1, none⟩) ((((j : Int) + 1) * (P : Int)).toNat - ((j : Int) * (P : Int)).toNat) (c - ((j : Int) * (P : Int)).toNat), .slice (some ⟨q', 0 + ((j : Int) * (P : Int)).toNat * 1, none⟩) ((((j : Int) + 1) * (P : Int)).toNat - ((j : Int) * (P : Int)).toNat) (c' - ((j : Int) * (P : Int)).toNat), .int .i64 n] (.tuple #[str (downB n P (segK P X.R j) (segK P Y.R j)).1, str (downB n P (segK P X.R j) (segK P Y.R j)).2]) := fun {_ _} h1 h2 w' hw' => by
        have s1 := SlOk.rowsT P (SlOk.rowsD (j * P) (SlOk.row (hw'.hp _ (nth_mem h1)) : SlOk w' (some ⟨q, 0, none⟩) (X.R.map str)))
        have s2 := SlOk.rowsT P (SlOk.rowsD (j * P) (SlOk.row (hw'.hp _ (nth_mem h2)) : SlOk w' (some ⟨q', 0, none⟩) (Y.R.map str)))
        have := Tryz.r04Find_w n (by omega) P (segK P X.R j) (segK P Y.R j) _ _ (c - A) (c' - A) w' (by rw [hL1]; omega) ⟨by rw [hL1]; omega, by rw [hL1, hL2], hjs, g4, fun x hx => by have := x1 x (segK_mem hx); omega, fun x hx => by have := x2 x (segK_mem hx); omega⟩ (by rw [hL1]; omega) (by rw [hL1]; omega) s1 s2
        rw [hA4, hA5, Nat.mul_one]
        rwa [hL1, hA] at this
      generalize downB n P (segK P X.R j) (segK P Y.R j) = Z at fF ⊢
      obtain ⟨z1, z2⟩ := Z
      refine At.go [true] [hB 3] rfl (by and_intros <;> first | exact fS rfl rfl | exact fF rfl rfl | exact Tryz.key_ld (i := 5) rfl | (simp; done) | omega | exact decide_eq_true (by omega) | exact oK) ?_
      refine At.qt [] [hB 3, hB 4, hB 4, hB 2, hB 4, hB 4] rfl rfl (by and_intros <;> first | exact fS rfl rfl | exact fF rfl rfl | exact Tryz.key_ld (i := 5) rfl | (simp; done) | omega | exact decide_eq_true (by omega) | exact oK) ?_
      refine At.go [true] [hC (.bool (decide (segK P X.R j = segK P Y.R j))), hK (.agg { toList := keyC }), hB 4, hC (.tuple { toList := [.string { data := (z1, z2).fst.toArray }, .string { data := (z1, z2).snd.toArray }] })] rfl (by and_intros <;> first | exact fS rfl rfl | exact fF rfl rfl | exact Tryz.key_ld (i := 5) rfl | (simp [hjs]; done) | omega | exact decide_eq_true (by omega) | exact oK) ?_
      refine At.rt [] [] [] Tryz.func30 ?_
      exact ⟨rfl, rfl, rfl⟩
  · obtain ⟨k, rfl⟩ : ∃ k, i = k + 1 := ⟨i - 1, by omega⟩
    have hkI : ((k + 1 : Nat) : Int) - 1 = (k : Int) := by omega
    rw [hkI]
    have hX1 := hdAt_get (H := X.H) (k := k) (by omega)
    have hY1 := hdAt_get (H := Y.H) (k := k) (by omega)
    have mx := o1.can k (by omega)
    have my := o2.can k (by omega)
    obtain ⟨x, hx⟩ : ∃ x, hdAt X.H k = x := ⟨_, rfl⟩
    obtain ⟨y, hy⟩ : ∃ y, hdAt Y.H k = y := ⟨_, rfl⟩
    rw [hx] at hX1 mx
    rw [hy] at hY1 my
    have rX : ∀ {S : Base} {bx : Bx} {hp : List Seg}, nth hp 5 = some (Seg.row (some qx) 55 6 X.H.length hc (X.H.flatMap hdC)) → RdW S bx hp qx (0 + (k : Int).toNat * 6) (hdC x) := fun {_ _ _} h => RdW.row h fun j u hu => by
      rw [show 0 + (k : Int).toNat * 6 + j = k * 6 + j by omega]
      exact flat_get (f := hdC) (sz := 6) (fun _ _ => rfl) hX1 j u hu
    have rY : ∀ {S : Base} {bx : Bx} {hp : List Seg}, nth hp 2 = some (Seg.row (some qy) 55 6 Y.H.length hc' (Y.H.flatMap hdC)) → RdW S bx hp qy (0 + (k : Int).toNat * 6) (hdC y) := fun {_ _ _} h => RdW.row h fun j u hu => by
      rw [show 0 + (k : Int).toNat * 6 + j = k * 6 + j by omega]
      exact flat_get (f := hdC) (sz := 6) (fun _ _ => rfl) hY1 j u hu
    have fP : ∀ {S : Base} {bx : Bx} {hp : List Seg}, CallOb Tryz.prog S bx hp 57 [.agg ⟨hdC x⟩] (str (putH x)) := fun {_ _ _} w2 _ => Tryz.rhPut_w x n w2 mx (by omega)
    have fQ : ∀ {S : Base} {bx : Bx} {hp : List Seg}, CallOb Tryz.prog S bx hp 57 [.agg ⟨hdC y⟩] (str (putH y)) := fun {_ _ _} w2 _ => Tryz.rhPut_w y n w2 my (by omega)
    by_cases hxy : x = y
    · subst hxy
      refine At.go [true] [] rfl (by and_intros <;> first | exact rX rfl | exact rY rfl | exact decide_eq_true (by omega) | (simp; done) | exact oK) ?_
      refine At.qt [] [hB 3, hR [.int .i64 x.i, .int .i64 x.f, .int .i64 x.c, .int .i64 x.b, .string { data := x.p.toArray }, .string { data := x.r.toArray }], hB 2, hR [.int .i64 x.i, .int .i64 x.f, .int .i64 x.c, .int .i64 x.b, .string { data := x.p.toArray }, .string { data := x.r.toArray }]] rfl rfl (by and_intros <;> first | exact rX rfl | exact rY rfl | exact decide_eq_true (by omega) | (simp; done) | exact oK) ?_
      refine At.go [false] [] rfl (by and_intros <;> first | exact rX rfl | exact rY rfl | exact decide_eq_true (by omega) | (simp; done) | exact oK) ?_
      exact At.weak (iho _ _ _ _ (by omega) ⟨k, rfl, by omega, fun j g1 g2 => by by_cases e : j = k; subst e; rw [hx, hy]; exact hno j (by omega) g2, rfl, rfl, rfl⟩) sB
    · have hD : lastD X.H Y.H X.H.length = some k := by
        cases hD : lastD X.H Y.H X.H.length with
        | none => exact absurd (by rw [← hx, ← hy]; exact lastD_none hD k (by omega)) hxy
        | some k2 =>
          obtain ⟨g1, g2, g3⟩ := lastD_some hD
          by_cases e : k2 < k
          · exact absurd (by rw [← hx, ← hy]; exact g3 k e (by omega)) hxy
          · by_cases e2 : k2 = k
            · rw [e2]
            · exact absurd (hno k2 (by omega) g1) g2
      rw [twC_head hD, hx, hy]
      refine At.go [true] [] rfl (by and_intros <;> first | exact rX rfl | exact rY rfl | exact fP | exact fQ | exact decide_eq_true (by omega) | exact hd_neq hxy | exact oK) ?_
      refine At.qt [] [hB 3, hR [.int .i64 x.i, .int .i64 x.f, .int .i64 x.c, .int .i64 x.b, .string { data := x.p.toArray }, .string { data := x.r.toArray }], hB 2, hR [.int .i64 y.i, .int .i64 y.f, .int .i64 y.c, .int .i64 y.b, .string { data := y.p.toArray }, .string { data := y.r.toArray }]] rfl rfl (by and_intros <;> first | exact rX rfl | exact rY rfl | exact fP | exact fQ | exact decide_eq_true (by omega) | exact hd_neq hxy | exact oK) ?_
      refine At.go [true] [] rfl (by and_intros <;> first | exact rX rfl | exact rY rfl | exact fP | exact fQ | exact decide_eq_true (by omega) | exact hd_neq hxy | exact oK) ?_
      refine At.qt [] [hB 3, hR [.int .i64 x.i, .int .i64 x.f, .int .i64 x.c, .int .i64 x.b, .string { data := x.p.toArray }, .string { data := x.r.toArray }], hC (.string { data := (putH x).toArray }), hB 2, hR [.int .i64 y.i, .int .i64 y.f, .int .i64 y.c, .int .i64 y.b, .string { data := y.p.toArray }, .string { data := y.r.toArray }], hC (.string { data := (putH y).toArray })] rfl rfl (by and_intros <;> first | exact rX rfl | exact rY rfl | exact fP | exact fQ | exact decide_eq_true (by omega) | exact hd_neq hxy | exact oK) ?_
      refine At.go [] [] rfl (by and_intros <;> first | exact rX rfl | exact rY rfl | exact fP | exact fQ | exact decide_eq_true (by omega) | exact hd_neq hxy | exact oK) ?_
      refine At.rt [] [] [] Tryz.func30 ?_
      exact ⟨rfl, rfl, rfl⟩
end Go.Proofs

/-
  Walks of the statements of layer 25: the example; TwinsClash.
-/
namespace Go.Proofs
open Go Go.Eng
set_option maxRecDepth 100000
set_option maxHeartbeats 4000000
attribute [local irreducible] Tri

theorem ex_ver25 : verF [] 2 1 = ⟨[], [], [], -1, 0⟩ := by
  have h1 : headsF [] (1 : Nat) = ([], true) := rfl
  have h2 : segF [] ((0 : Nat) : Int) = ([], true) := by
    show segF [] 0 = _
    unfold segF; rw [ex_nm0]; rfl
  have := verF_end (S := []) (per := 2) (n := 1) (by rw [h1]; rfl)
  rw [this, h1]
  simp only [List.length_nil]
  rw [h2]; rfl
set_option maxRecDepth 100000 in
theorem ex_cut25 : decide (([97] : List UInt8) ≠ [98] ∧ cutH 32 [97] = cutH 32 [98]) = false := by
  unfold cutH shaH; decide +kernel
theorem imOk_nil (w : World) : ImOk w [] none := ⟨by decide, (fun p hp => by cases hp), (fun p hp => by cases hp), .inl rfl⟩
theorem Tryz.alive25_w (w : World) (hT : Tryz.Tabs w) : Fun Tryz.prog 27 [] w (.bool true) := by
  have eB : bothE 1 ⟨[], [], [], -1, 0⟩ ⟨[], [], [], -1, 0⟩ = 0 := by unfold bothE; simp
  have fF : ∀ {bx : Bx} {hp : List Seg}, CallOb Tryz.prog ⟨w, kys [] []⟩ bx hp 28 [.slice none 0 0, .slice none 0 0, .agg ⟨[.int .i64 2, .int .i64 1, .int .i64 0, .int .i64 9]⟩] (.tuple #[str [], str [], .int .i64 7]) := fun {_ _} w' hw' => by
    have := Tryz.twFind_w [] [] 2 1 0 9 none none 0 0 w' (imOk_nil w') (imOk_nil w') (by decide) (Tryz.tabs_ext0 hT hw'.ext)
    rw [show ((2 : Nat) : Int) = 2 from rfl, ex_ver25, twB_zero eB] at this
    exact this
  have fA : ∀ {bx : Bx} {hp : List Seg}, CallOb Tryz.prog ⟨w, kys [] []⟩ bx hp 29 [.slice none 0 0, .slice none 0 0, .agg ⟨[.int .i64 2, .int .i64 1, .int .i64 0, .int .i64 9]⟩] (.tuple #[.bool true, .int .i64 0]) := fun {_ _} w' hw' => by
    have := Tryz.alike_w [] [] 2 1 0 9 none none 0 0 w' (imOk_nil w') (imOk_nil w') (by decide) (Tryz.tabs_ext0 hT hw'.ext)
    rw [show ((2 : Nat) : Int) = 2 from rfl, ex_ver25, eB] at this
    exact this
  have fC : ∀ {bx : Bx} {hp : List Seg}, CallOb Tryz.prog ⟨w, kys [] []⟩ bx hp 31 [str [97], str [97], .int .i64 1] (.bool false) := fun {_ _} w' hw' => by
    have := Tryz.twClash_w [97] [97] 1 w' (by decide) (by decide) (by decide) (Tryz.tabs_ext0 hT hw'.ext).1
    rwa [decide_eq_false (fun h => h.1 rfl)] at this
  have fD : ∀ {bx : Bx} {hp : List Seg}, CallOb Tryz.prog ⟨w, kys [] []⟩ bx hp 31 [str [97], str [98], .int .i64 32] (.bool false) := fun {_ _} w' hw' => by
    have := Tryz.twClash_w [97] [98] 32 w' (by decide) (by decide) (by decide) (Tryz.tabs_ext0 hT hw'.ext).1
    rwa [ex_cut25] at this
  refine Tri.enter (bx := []) (hp := []) Tryz.func27 rfl (by kernel_rfl) rfl (Own.nil w) ?_
  refine At.go [] [] rfl (by and_intros <;> first | exact fF | exact fA | exact fC | exact fD | (simp; done) | exact oK) ?_
  refine At.al fun b1 hb1 => ?_
  refine At.go [true, true, true, true] [hB 0, hB 0, hC (.tuple { toList := [.string { data := #[] }, .string { data := #[] }, .int .i64 7] }), hB 0, hC (.tuple ⟨[.bool true, .int .i64 0]⟩), hC (.bool false), hC (.bool false)] rfl (by and_intros <;> first | exact fF | exact fA | exact fC | exact fD | (simp; done) | exact oK) ?_
  refine At.rt [] [] [] Tryz.func27 ?_
  exact ⟨rfl, rfl, rfl⟩
end Go.Proofs

/-
  Walks of the statements of layer 25: TwinsFind, TwinsTrue.
-/
namespace Go.Proofs
open Go Go.Eng
set_option maxRecDepth 100000
set_option maxHeartbeats 4000000
attribute [local irreducible] Tri

theorem verF_e7 {S : FL} {P : Int} {n : Nat} : (verF S P n).e ≠ 7 := by
  cases hf : fstE (segE S P n (headsF S n).1) (headsF S n).1.length 0 with
  | some k =>
    rw [verF_hit hf]
    show segE S P n (headsF S n).1 k ≠ 7
    unfold segE
    repeat' split
    all_goals decide
  | none =>
    rw [verF_end hf]
    repeat' split
    all_goals simp
theorem bothE_7 {n : Nat} {X Y : FndB} (h1 : X.e ≠ 7) (h2 : Y.e ≠ 7) : bothE n X Y ≠ 7 := by
  unfold bothE
  split
  · exact h1
  · split
    · exact h2
    · split <;> decide
theorem Tryz.twinsFind_w (S T : FL) (c1 n c3 c4 : Int) (fa fb : Option Addr) (fc fd : Nat) (w : World) (hl1 : S.length ≤ 9223372036854775807) (hf1 : SlOk w fa (fl S)) (hn1 : ∀ p, p ∈ S → p.1.length ≤ 9223372036854775807 ∧ p.2.length ≤ 9223372036854775807) (hl2 : T.length ≤ 9223372036854775807) (hf2 : SlOk w fb (fl T)) (hn2 : ∀ p, p ∈ T → p.1.length ≤ 9223372036854775807 ∧ p.2.length ≤ 9223372036854775807) (hT : Tryz.Tabs w) :
    Fun Tryz.prog 7 [.slice fa S.length fc, .slice fb T.length fd, .agg ⟨[.int .i64 c1, .int .i64 n, .int .i64 c3, .int .i64 c4]⟩] w (.bool true) := by
  have fA : ∀ {bx : Bx} {hp : List Seg}, CallOb Tryz.prog ⟨w, kys [] []⟩ bx hp 27 [] (.bool true) := fun {_ _} w' hw' => Tryz.alive25_w w' (Tryz.tabs_ext0 hT hw'.ext)
  obtain ⟨g1, hg1⟩ : ∃ gr, greatF S = gr := ⟨_, rfl⟩
  obtain ⟨g2, hg2⟩ : ∃ gr, greatF T = gr := ⟨_, rfl⟩
  have fG : ∀ {bx : Bx} {hp : List Seg}, CallOb Tryz.prog ⟨w, kys [] []⟩ bx hp 11 [.slice fa S.length fc] (.bool g1) := fun {_ _} w' hw' => by
    rw [← hg1]; exact Tryz.great09_w S fa fc w' hl1 (hf1.ext hw'.ext (by simp [kys])) hn1
  have fH : ∀ {bx : Bx} {hp : List Seg}, CallOb Tryz.prog ⟨w, kys [] []⟩ bx hp 11 [.slice fb T.length fd] (.bool g2) := fun {_ _} w' hw' => by
    rw [← hg2]; exact Tryz.great09_w T fb fd w' hl2 (hf2.ext hw'.ext (by simp [kys])) hn2
  cases g1 with
  | true =>
    refine Tri.enter (bx := []) (hp := []) Tryz.func7 rfl (by kernel_rfl) rfl (Own.nil w) ?_
    refine At.go [] [] rfl (by and_intros <;> first | exact fA | exact fG | exact fH | exact oK) ?_
    refine At.bo fun b5 hb5 => ?_
    refine At.go [false, true, true] [hC (.bool true), hC (.bool true)] rfl (by and_intros <;> first | exact fA | exact fG | exact fH | exact oK) ?_
    refine At.rt [] [] [] Tryz.func7 ?_
    exact ⟨rfl, rfl, rfl⟩
  | false =>
    cases g2 with
    | true =>
      refine Tri.enter (bx := []) (hp := []) Tryz.func7 rfl (by kernel_rfl) rfl (Own.nil w) ?_
      refine At.go [] [] rfl (by and_intros <;> first | exact fA | exact fG | exact fH | exact oK) ?_
      refine At.bo fun b5 hb5 => ?_
      refine At.go [false, false, true] [hC (.bool true), hC (.bool false), hC (.bool true)] rfl (by and_intros <;> first | exact fA | exact fG | exact fH | exact oK) ?_
      refine At.rt [] [] [] Tryz.func7 ?_
      exact ⟨rfl, rfl, rfl⟩
    | false =>
      obtain ⟨h60, hSb⟩ := greatF_lens hg1
      obtain ⟨h60', hTb⟩ := greatF_lens hg2
      have iS : ImOk w S fa := ⟨h60, hSb, fun p hp => (hn1 p hp).1, hf1⟩
      have iT : ImOk w T fb := ⟨h60', hTb, fun p hp => (hn2 p hp).1, hf2⟩
      have fY : ∀ {S : Base} {bx : Bx} {hp : List Seg}, CallOb Tryz.prog S bx hp 14 [.agg ⟨[.int .i64 c1, .int .i64 n, .int .i64 c3, .int .i64 c4]⟩] (.bool (mayCf c1 n c3 c4)) := fun {_ _ _} w' _ => Tryz.r19May_w c1 n c3 c4 w'
      cases hmay : mayCf c1 n c3 c4 with
      | false =>
        rw [hmay] at fY
        have fF : ∀ {bx : Bx} {hp : List Seg}, CallOb Tryz.prog ⟨w, kys [] []⟩ bx hp 28 [.slice fa S.length fc, .slice fb T.length fd, .agg ⟨[.int .i64 c1, .int .i64 n, .int .i64 c3, .int .i64 c4]⟩] (.tuple #[str [], str [], .int .i64 1]) := fun {_ _} w' hw' => Tryz.twFindNo_w S T n c1 c3 c4 fa fb fc fd w' hmay
        have fL : ∀ {bx : Bx} {hp : List Seg}, CallOb Tryz.prog ⟨w, kys [] []⟩ bx hp 29 [.slice fa S.length fc, .slice fb T.length fd, .agg ⟨[.int .i64 c1, .int .i64 n, .int .i64 c3, .int .i64 c4]⟩] (.tuple #[.bool false, .int .i64 1]) := fun {_ _} w' hw' => Tryz.alikeNo_w S T n c1 c3 c4 fa fb fc fd w' hmay
        refine Tri.enter (bx := []) (hp := []) Tryz.func7 rfl (by kernel_rfl) rfl (Own.nil w) ?_
        refine At.go [] [] rfl (by and_intros <;> first | exact fA | exact fG | exact fH | exact fF | exact fL | exact fY | (simp; done) | exact oK) ?_
        refine At.bo fun b5 hb5 => ?_
        refine At.go [false, false, false, true, true, true, true, true] [hC (.bool true), hC (.bool false), hC (.bool false), hB 0, hC (.tuple { toList := [.string { data := #[] }, .string { data := #[] }, .int .i64 1] }), hB 0, hC (.tuple ⟨[.bool false, .int .i64 1]⟩), hB 0, hC (.bool false)] rfl (by and_intros <;> first | exact fA | exact fG | exact fH | exact fF | exact fL | exact fY | (simp; done) | exact oK) ?_
        refine At.rt [] [] [] Tryz.func7 ?_
        exact ⟨rfl, rfl, rfl⟩
      | true =>
        rw [hmay] at fY
        have hin := mayCf_in hmay
        obtain ⟨N, rfl⟩ : ∃ N : Nat, n = N := ⟨n.toNat, by omega⟩
        obtain ⟨P, rfl⟩ : ∃ P : Nat, c1 = P := ⟨c1.toNat, by omega⟩
        have fK : ∀ {S : Base} {bx : Bx} {hp : List Seg}, CallOb Tryz.prog S bx hp 15 [] (.agg ⟨keyC⟩) := fun {_ _ _} w' _ => Tryz.makeKeyC_w w'
        have fF : ∀ {bx : Bx} {hp : List Seg}, CallOb Tryz.prog ⟨w, kys [] []⟩ bx hp 28 [.slice fa S.length fc, .slice fb T.length fd, .agg ⟨[.int .i64 P, .int .i64 N, .int .i64 c3, .int .i64 c4]⟩] (.tuple #[str (twB P N (verF S P N) (verF T P N)).1, str (twB P N (verF S P N) (verF T P N)).2.1, .int .i64 (twB P N (verF S P N) (verF T P N)).2.2]) := fun {_ _} w' hw' => Tryz.twFind_w S T P N c3 c4 fa fb fc fd w' (iS.ext hw'.ext) (iT.ext hw'.ext) hmay (Tryz.tabs_ext0 hT hw'.ext)
        have fL : ∀ {bx : Bx} {hp : List Seg}, CallOb Tryz.prog ⟨w, kys [] []⟩ bx hp 29 [.slice fa S.length fc, .slice fb T.length fd, .agg ⟨[.int .i64 P, .int .i64 N, .int .i64 c3, .int .i64 c4]⟩] (.tuple #[.bool (decide (bothE N (verF S P N) (verF T P N) = 0 ∧ (verF S P N).R = (verF T P N).R)), .int .i64 (bothE N (verF S P N) (verF T P N))]) := fun {_ _} w' hw' => Tryz.alike_w S T P N c3 c4 fa fb fc fd w' (iS.ext hw'.ext) (iT.ext hw'.ext) hmay (Tryz.tabs_ext0 hT hw'.ext)
        have fR : ∀ {bx : Bx} {hp : List Seg}, CallOb Tryz.prog ⟨w, kys [] []⟩ bx hp 30 [.agg ⟨keyC⟩, .slice fa S.length fc, .slice fb T.length fd, .agg ⟨[.int .i64 P, .int .i64 N, .int .i64 c3, .int .i64 c4]⟩] (.tuple #[str (twB P N (verF S P N) (verF T P N)).1, str (twB P N (verF S P N) (verF T P N)).2.1, .int .i64 (twB P N (verF S P N) (verF T P N)).2.2]) := fun {_ _} w' hw' => Tryz.r25Find_w S T P N c3 c4 fa fb fc fd w' (iS.ext hw'.ext) (iT.ext hw'.ext) hmay
        have h7 := bothE_7 (n := N) (@verF_e7 S P N) (@verF_e7 T P N)
        have hbad := @twB_bad P N (verF S P N) (verF T P N)
        have hzero := @twB_zero P N (verF S P N) (verF T P N)
        have htrue := fun (h : bothE N (verF S P N) (verF T P N) = 0) (gR : (verF S P N).R ≠ (verF T P N).R) => (tw_true (P := P) (by omega) (fndOk (by omega) (bothE_zero h).1) (fndOk (by omega) (bothE_zero h).2.1) (bothE_zero h).2.2.1 (bothE_zero h).2.2.2 gR).1
        generalize verF S P N = X at *
        generalize verF T P N = Y at *
        by_cases hE : bothE N X Y = 0
        · rw [hzero hE] at fF fR
          rw [hE] at fL
          by_cases gR : X.R = Y.R
          · rw [if_pos gR] at fF fR
            dsimp only at fF fR
            rw [decide_eq_true (⟨rfl, gR⟩ : (0 : Int) = 0 ∧ X.R = Y.R)] at fL
            refine Tri.enter (bx := []) (hp := []) Tryz.func7 rfl (by kernel_rfl) rfl (Own.nil w) ?_
            refine At.go [] [] rfl (by and_intros <;> first | exact fA | exact fG | exact fH | exact fF | exact fL | exact fY | exact fK | exact fR | (simp; done) | exact oK) ?_
            refine At.bo fun b5 hb5 => ?_
            refine At.go [false, false, false, false] [hC (.bool true), hC (.bool false), hC (.bool false), hB 0, hC (.tuple { toList := [.string { data := #[] }, .string { data := #[] }, .int .i64 7] }), hB 0, hC (.tuple ⟨[.bool true, .int .i64 0]⟩), hB 0, hC (.bool true)] rfl (by and_intros <;> first | exact fA | exact fG | exact fH | exact fF | exact fL | exact fY | exact fK | exact fR | (simp; done) | exact oK) ?_
            refine At.qt [] [hC (.agg { toList := keyC }), hB 0, hC (.tuple { toList := [.string { data := #[] }, .string { data := #[] }, .int .i64 7] })] rfl rfl (by and_intros <;> first | exact fA | exact fG | exact fH | exact fF | exact fL | exact fY | exact fK | exact fR | (simp; done) | exact oK) ?_
            refine At.go [false, false, false, false, true, true] [] rfl (by and_intros <;> first | exact fA | exact fG | exact fH | exact fF | exact fL | exact fY | exact fK | exact fR | (simp; done) | exact oK) ?_
            refine At.rt [] [] [] Tryz.func7 ?_
            exact ⟨rfl, rfl, rfl⟩
          · rw [if_neg gR] at fF fR
            rw [decide_eq_false (fun h => gR h.2 : ¬ ((0 : Int) = 0 ∧ X.R = Y.R))] at fL
            have h0 := htrue hE gR
            generalize twC P N X Y = Z at fF fR h0
            obtain ⟨z1, z2, z3⟩ := Z
            simp only at h0 fF fR
            subst h0
            refine Tri.enter (bx := []) (hp := []) Tryz.func7 rfl (by kernel_rfl) rfl (Own.nil w) ?_
            refine At.go [] [] rfl (by and_intros <;> first | exact fA | exact fG | exact fH | exact fF | exact fL | exact fY | exact fK | exact fR | (simp; done) | exact oK) ?_
            refine At.bo fun b5 hb5 => ?_
            refine At.go [false, false, false, false] [hC (.bool true), hC (.bool false), hC (.bool false), hB 0, hC (.tuple { toList := [.string { data := z1.toArray }, .string { data := z2.toArray }, .int .i64 0] }), hB 0, hC (.tuple ⟨[.bool false, .int .i64 0]⟩), hB 0, hC (.bool true)] rfl (by and_intros <;> first | exact fA | exact fG | exact fH | exact fF | exact fL | exact fY | exact fK | exact fR | (simp; done) | exact oK) ?_
            refine At.qt [] [hC (.agg { toList := keyC }), hB 0, hC (.tuple { toList := [.string { data := z1.toArray }, .string { data := z2.toArray }, .int .i64 0] })] rfl rfl (by and_intros <;> first | exact fA | exact fG | exact fH | exact fF | exact fL | exact fY | exact fK | exact fR | (simp; done) | exact oK) ?_
            refine At.go [false, false, false, true, true, true] [] rfl (by and_intros <;> first | exact fA | exact fG | exact fH | exact fF | exact fL | exact fY | exact fK | exact fR | (simp; done) | exact oK) ?_
            refine At.rt [] [] [] Tryz.func7 ?_
            exact ⟨rfl, rfl, rfl⟩
        · rw [hbad hE] at fF fR
          dsimp only at fF fR
          rw [decide_eq_false (fun h => hE h.1 : ¬ (bothE N X Y = 0 ∧ X.R = Y.R))] at fL
          generalize bothE N X Y = e at *
          refine Tri.enter (bx := []) (hp := []) Tryz.func7 rfl (by kernel_rfl) rfl (Own.nil w) ?_
          refine At.go [] [] rfl (by and_intros <;> first | exact fA | exact fG | exact fH | exact fF | exact fL | exact fY | exact fK | exact fR | (simp; done) | (simp [hE, h7]; done) | exact oK) ?_
          refine At.bo fun b5 hb5 => ?_
          refine At.go [false, false, false, false] [hC (.bool true), hC (.bool false), hC (.bool false), hB 0, hC (.tuple { toList := [.string { data := #[] }, .string { data := #[] }, .int .i64 e] }), hB 0, hC (.tuple ⟨[.bool false, .int .i64 e]⟩), hB 0, hC (.bool true)] rfl (by and_intros <;> first | exact fA | exact fG | exact fH | exact fF | exact fL | exact fY | exact fK | exact fR | (simp; done) | (simp [hE, h7]; done) | exact oK) ?_
          refine At.qt [] [hC (.agg { toList := keyC }), hB 0, hC (.tuple { toList := [.string { data := #[] }, .string { data := #[] }, .int .i64 e] })] rfl rfl (by and_intros <;> first | exact fA | exact fG | exact fH | exact fF | exact fL | exact fY | exact fK | exact fR | (simp; done) | (simp [hE, h7]; done) | exact oK) ?_
          refine At.go [false, false, false, false, false, true] [] rfl (by and_intros <;> first | exact fA | exact fG | exact fH | exact fF | exact fL | exact fY | exact fK | exact fR | (simp; done) | (simp [hE, h7]; done) | exact oK) ?_
          refine At.rt [] [] [] Tryz.func7 ?_
          exact ⟨by simp [tupV], rfl, rfl⟩
end Go.Proofs

/-
  Walks of layer 9: what a disk tells.
-/
import Derived.Test.YtfpoclhenokhhaaW41
namespace Go.Proofs
open Go Go.Eng
set_option maxRecDepth 100000
set_option maxHeartbeats 4000000
attribute [local irreducible] Tri

/-- A disk's cells. -/
def dkV (room : Nat) (bs : Nat) (kv pv : Value) : List Value := [.int .i64 room, .map (some bs), kv, pv]


theorem Try.Room_w (d room bs : Nat) (kv pv : Value) (FS : List FileE) (w : World) (hb : w.heap[d]? = some (.cells (dkV room bs kv pv).toArray 112 (0, 0))) (hF : FilesOk w 5 bs FS) (hr : room ≤ 4611686018427387904) (hu : usedF FS ≤ 4611686018427387904) :
    Fun Try.prog 49 [.pointer (some ⟨d, 0, none⟩)] w (.int .i64 ((room : Int) - (usedF FS : Int))) := by
  refine Tri.enter (bx := []) (hp := []) Try.func49 rfl (by kernel_rfl) rfl (Own.nil w) ?_
  have rd0 : ∀ {bx : Bx} {hp : List Seg}, RdW ⟨w, kys [] []⟩ bx hp d 0 [.int .i64 room] := fun {_ _} => RdW.blkB1 (by simp [kys]) hb rfl
  have rd1 : ∀ {bx : Bx} {hp : List Seg}, RdW ⟨w, kys [] []⟩ bx hp d 1 [.map (some bs)] := fun {_ _} => RdW.blkB1 (by simp [kys]) hb rfl
  have rd2 : ∀ {bx : Bx} {hp : List Seg}, RdW ⟨w, kys [] []⟩ bx hp d 2 [kv] := fun {_ _} => RdW.blkB1 (by simp [kys]) hb rfl
  have rd3 : ∀ {bx : Bx} {hp : List Seg}, RdW ⟨w, kys [] []⟩ bx hp d 3 [pv] := fun {_ _} => RdW.blkB1 (by simp [kys]) hb rfl
  have hU : ∀ {bx : Bx} {hp : List Seg}, CallOb Try.prog ⟨w, kys [] []⟩ bx hp 86 [.map (some bs)] (.int .i64 (usedF FS)) := fun {_ _} w' hw' => Try.used_w bs FS w' (hF.ext hw'.ext (by simp [kys])) (by omega)
  refine At.run 100 true [false] [] rfl (by (repeat' apply And.intro) <;> first | exact True.intro | omega | (simp only [inK]; omega) | (simp; done) | (simp; omega) | exact decide_eq_true (by omega) | exact decide_eq_false (by omega) | rfl | (simp [Value.oneCell']; done) | exact i64s_one _ | exact AggOk.mk (by kernel_rfl) (by kernel_rfl)) ?_
  refine At.quiet true [] [hR [.int .i64 room], hR [.map (some bs)], hC (.int .i64 (usedF FS))] ⟨by kernel_rfl, by kernel_rfl, rfl, rfl, rfl⟩ rfl rfl rfl (by (repeat' apply And.intro) <;> first | exact rd0 | exact rd1 | exact hU | exact True.intro | omega | rfl | (simp only [inK]; omega) | exact decide_eq_true (by omega) | exact decide_eq_false (by omega) | (simp; done) | (simp; omega) | (simp [Value.oneCell']; done) | exact i64s_one _ | exact AggOk.mk (by kernel_rfl) (by kernel_rfl)) ?_
  refine At.run 100 true [] [] rfl (by (repeat' apply And.intro) <;> first | exact True.intro | omega | (simp only [inK]; omega) | (simp; done) | (simp; omega) | exact decide_eq_true (by omega) | exact decide_eq_false (by omega) | rfl | (simp [Value.oneCell']; done) | exact i64s_one _ | exact AggOk.mk (by kernel_rfl) (by kernel_rfl)) ?_
  exact At.retK [] [] [] rfl rfl Try.func49 rfl trivial ⟨rfl, rfl, rfl⟩

theorem Try.Room0_w (w : World) : Fun Try.prog 49 [.pointer none] w (.int .i64 0) := by
  refine Tri.enter (bx := []) (hp := []) Try.func49 rfl (by kernel_rfl) rfl (Own.nil w) ?_
  refine At.run 100 true [true] [] rfl (by (repeat' apply And.intro) <;> first | exact True.intro | omega | (simp only [inK]; omega) | (simp; done) | (simp; omega) | exact decide_eq_true (by omega) | exact decide_eq_false (by omega) | rfl | (simp [Value.oneCell']; done) | exact i64s_one _ | exact AggOk.mk (by kernel_rfl) (by kernel_rfl)) ?_
  exact At.retK [] [] [] rfl rfl Try.func49 rfl trivial ⟨rfl, rfl, rfl⟩

theorem Try.Used_w (d room bs : Nat) (kv pv : Value) (FS : List FileE) (w : World) (hb : w.heap[d]? = some (.cells (dkV room bs kv pv).toArray 112 (0, 0))) (hF : FilesOk w 5 bs FS) (hu : usedF FS ≤ 4611686018427387904) :
    Fun Try.prog 48 [.pointer (some ⟨d, 0, none⟩)] w (.int .i64 (usedF FS)) := by
  refine Tri.enter (bx := []) (hp := []) Try.func48 rfl (by kernel_rfl) rfl (Own.nil w) ?_
  have rd0 : ∀ {bx : Bx} {hp : List Seg}, RdW ⟨w, kys [] []⟩ bx hp d 0 [.int .i64 room] := fun {_ _} => RdW.blkB1 (by simp [kys]) hb rfl
  have rd1 : ∀ {bx : Bx} {hp : List Seg}, RdW ⟨w, kys [] []⟩ bx hp d 1 [.map (some bs)] := fun {_ _} => RdW.blkB1 (by simp [kys]) hb rfl
  have rd2 : ∀ {bx : Bx} {hp : List Seg}, RdW ⟨w, kys [] []⟩ bx hp d 2 [kv] := fun {_ _} => RdW.blkB1 (by simp [kys]) hb rfl
  have rd3 : ∀ {bx : Bx} {hp : List Seg}, RdW ⟨w, kys [] []⟩ bx hp d 3 [pv] := fun {_ _} => RdW.blkB1 (by simp [kys]) hb rfl
  have hU : ∀ {bx : Bx} {hp : List Seg}, CallOb Try.prog ⟨w, kys [] []⟩ bx hp 86 [.map (some bs)] (.int .i64 (usedF FS)) := fun {_ _} w' hw' => Try.used_w bs FS w' (hF.ext hw'.ext (by simp [kys])) (by omega)
  refine At.run 100 true [false] [hR [.map (some bs)], hC (.int .i64 (usedF FS))] rfl (by (repeat' apply And.intro) <;> first | exact rd1 | exact hU | exact True.intro | omega | rfl | (simp only [inK]; omega) | exact decide_eq_true (by omega) | exact decide_eq_false (by omega) | (simp; done) | (simp; omega) | (simp [Value.oneCell']; done) | exact i64s_one _ | exact AggOk.mk (by kernel_rfl) (by kernel_rfl)) ?_
  exact At.retK [] [] [] rfl rfl Try.func48 rfl trivial ⟨rfl, rfl, rfl⟩

theorem Try.Used0_w (w : World) : Fun Try.prog 48 [.pointer none] w (.int .i64 0) := by
  refine Tri.enter (bx := []) (hp := []) Try.func48 rfl (by kernel_rfl) rfl (Own.nil w) ?_
  refine At.run 100 true [true] [] rfl (by (repeat' apply And.intro) <;> first | exact True.intro | omega | (simp only [inK]; omega) | (simp; done) | (simp; omega) | exact decide_eq_true (by omega) | exact decide_eq_false (by omega) | rfl | (simp [Value.oneCell']; done) | exact i64s_one _ | exact AggOk.mk (by kernel_rfl) (by kernel_rfl)) ?_
  exact At.retK [] [] [] rfl rfl Try.func48 rfl trivial ⟨rfl, rfl, rfl⟩

theorem Try.Pending_w (d room bs : Nat) (kv : Value) (a : Option Addr) (n c : Nat) (w : World) (hb : w.heap[d]? = some (.cells (dkV room bs kv (.slice a n c)).toArray 112 (0, 0))) :
    Fun Try.prog 26 [.pointer (some ⟨d, 0, none⟩)] w (.int .i64 n) := by
  refine Tri.enter (bx := []) (hp := []) Try.func26 rfl (by kernel_rfl) rfl (Own.nil w) ?_
  have rd3 : ∀ {bx : Bx} {hp : List Seg}, RdW ⟨w, kys [] []⟩ bx hp d 3 [.slice a n c] := fun {_ _} => RdW.blkB1 (by simp [kys]) hb rfl
  refine At.run 100 true [false] [hR [.slice a n c]] rfl (by (repeat' apply And.intro) <;> first | exact rd3 | exact True.intro | omega | rfl | (simp only [inK]; omega) | exact decide_eq_true (by omega) | exact decide_eq_false (by omega) | (simp; done) | (simp; omega) | (simp [Value.oneCell']; done) | exact i64s_one _ | exact AggOk.mk (by kernel_rfl) (by kernel_rfl)) ?_
  exact At.retK [] [] [] rfl rfl Try.func26 rfl trivial ⟨rfl, rfl, rfl⟩

theorem Try.Pending0_w (w : World) : Fun Try.prog 26 [.pointer none] w (.int .i64 0) := by
  refine Tri.enter (bx := []) (hp := []) Try.func26 rfl (by kernel_rfl) rfl (Own.nil w) ?_
  refine At.run 100 true [true] [] rfl (by (repeat' apply And.intro) <;> first | exact True.intro | omega | (simp only [inK]; omega) | (simp; done) | (simp; omega) | exact decide_eq_true (by omega) | exact decide_eq_false (by omega) | rfl | (simp [Value.oneCell']; done) | exact i64s_one _ | exact AggOk.mk (by kernel_rfl) (by kernel_rfl)) ?_
  exact At.retK [] [] [] rfl rfl Try.func26 rfl trivial ⟨rfl, rfl, rfl⟩

theorem Try.DRead_w (d room bs : Nat) (kv pv : Value) (FS : List FileE) (n : List UInt8) (w : World) (hb : w.heap[d]? = some (.cells (dkV room bs kv pv).toArray 112 (0, 0))) (hF : FilesOk w 5 bs FS) (hne : ∀ f, f ∈ FS → 0 < f.bytes.length) :
    Fun Try.prog 23 [.pointer (some ⟨d, 0, none⟩), str n] w (str (bytesF FS n)) := by
  refine Tri.enter (bx := []) (hp := []) Try.func23 rfl (by kernel_rfl) rfl (Own.nil w) ?_
  have rd0 : ∀ {bx : Bx} {hp : List Seg}, RdW ⟨w, kys [] []⟩ bx hp d 0 [.int .i64 room] := fun {_ _} => RdW.blkB1 (by simp [kys]) hb rfl
  have rd1 : ∀ {bx : Bx} {hp : List Seg}, RdW ⟨w, kys [] []⟩ bx hp d 1 [.map (some bs)] := fun {_ _} => RdW.blkB1 (by simp [kys]) hb rfl
  have rd2 : ∀ {bx : Bx} {hp : List Seg}, RdW ⟨w, kys [] []⟩ bx hp d 2 [kv] := fun {_ _} => RdW.blkB1 (by simp [kys]) hb rfl
  have rd3 : ∀ {bx : Bx} {hp : List Seg}, RdW ⟨w, kys [] []⟩ bx hp d 3 [pv] := fun {_ _} => RdW.blkB1 (by simp [kys]) hb rfl
  have hLk : ∀ {bx : Bx} {hp : List Seg}, LookOb Try.prog ⟨w, kys [] []⟩ bx hp 109 (.map (some bs)) (str n) false (valF FS n) := fun {_ _} => LookOb.file Try.filesT Try.strT Try.zeroBytes (fun w' hw' => hF.ext (t := 5) hw'.ext (by simp [kys]))
  cases hg : getF FS n with
  | none =>
    have hv : valF FS n = sv none 0 0 := by simp [valF, hg]
    have hby : bytesF FS n = [] := by simp [bytesF, hg]
    rw [hv] at hLk
    refine At.run 100 true [false] [hR [.map (some bs)], hL (sv none 0 0)] rfl (by (repeat' apply And.intro) <;> first | exact rd1 | exact hLk | exact True.intro | omega | rfl | (simp only [inK]; omega) | exact decide_eq_true (by omega) | exact decide_eq_false (by omega) | (simp; done) | (simp; omega) | (simp [Value.oneCell']; done) | exact i64s_one _ | exact AggOk.mk (by kernel_rfl) (by kernel_rfl)) ?_
    refine At.nilRow 5 1 ?_
    refine At.step [] rfl rfl rfl rfl rfl trivial (OpOk.toStr (l := []) 0 rfl rfl rfl rfl rfl rfl ?_)
    refine At.run 100 true [] [] rfl (by (repeat' apply And.intro) <;> first | exact True.intro | omega | (simp only [inK]; omega) | (simp; done) | (simp; omega) | exact decide_eq_true (by omega) | exact decide_eq_false (by omega) | rfl | (simp [Value.oneCell']; done) | exact i64s_one _ | exact AggOk.mk (by kernel_rfl) (by kernel_rfl)) ?_
    refine At.keep [] [] rfl ?_
    exact At.ret [] rfl Try.func23 rfl trivial ⟨by rw [hby]; rfl, rfl, rfl⟩
  | some f =>
    have hv : valF FS n = sv (some f.g) f.bytes.length f.cap := by simp [valF, hg]
    have hby : bytesF FS n = f.bytes := by simp [bytesF, hg]
    have hfm := (getF_some hg).1
    rw [hv] at hLk
    refine At.run 100 true [false] [hR [.map (some bs)], hL (sv (some f.g) f.bytes.length f.cap)] rfl (by (repeat' apply And.intro) <;> first | exact rd1 | exact hLk | exact True.intro | omega | rfl | (simp only [inK]; omega) | exact decide_eq_true (by omega) | exact decide_eq_false (by omega) | (simp; done) | (simp; omega) | (simp [Value.oneCell']; done) | exact i64s_one _ | exact AggOk.mk (by kernel_rfl) (by kernel_rfl)) ?_
    refine At.step [] rfl rfl rfl rfl rfl trivial (OpOk.toStrR f.bytes rfl rfl rfl rfl rfl rfl (fun w' hw' => ?_) ?_)
    · have hrow := (hF.ext hw'.ext (by simp [kys])).row f hfm
      intro j u hu
      rw [Nat.zero_add]; exact hrow.cell hu
    refine At.run 100 true [] [] rfl (by (repeat' apply And.intro) <;> first | exact True.intro | omega | (simp only [inK]; omega) | (simp; done) | (simp; omega) | exact decide_eq_true (by omega) | exact decide_eq_false (by omega) | rfl | (simp [Value.oneCell']; done) | exact i64s_one _ | exact AggOk.mk (by kernel_rfl) (by kernel_rfl)) ?_
    exact At.ret [] rfl Try.func23 rfl trivial ⟨by rw [hby]; rfl, rfl, rfl⟩

theorem Try.DRead0_w (n : List UInt8) (w : World) : Fun Try.prog 23 [.pointer none, str n] w (str []) := by
  refine Tri.enter (bx := []) (hp := []) Try.func23 rfl (by kernel_rfl) rfl (Own.nil w) ?_
  refine At.run 100 true [true] [] rfl (by (repeat' apply And.intro) <;> first | exact True.intro | omega | (simp only [inK]; omega) | (simp; done) | (simp; omega) | exact decide_eq_true (by omega) | exact decide_eq_false (by omega) | rfl | (simp [Value.oneCell']; done) | exact i64s_one _ | exact AggOk.mk (by kernel_rfl) (by kernel_rfl)) ?_
  exact At.retK [] [] [] rfl rfl Try.func23 rfl trivial ⟨rfl, rfl, rfl⟩

theorem Try.Files0_w (w : World) : Fun Try.prog 28 [.pointer none] w (.slice none 0 0) := by
  refine Tri.enter (bx := []) (hp := []) Try.func28 rfl (by kernel_rfl) rfl (Own.nil w) ?_
  refine At.run 100 true [true] [] rfl (by (repeat' apply And.intro) <;> first | exact True.intro | omega | (simp only [inK]; omega) | (simp; done) | (simp; omega) | exact decide_eq_true (by omega) | exact decide_eq_false (by omega) | rfl | (simp [Value.oneCell']; done) | exact i64s_one _ | exact AggOk.mk (by kernel_rfl) (by kernel_rfl)) ?_
  exact At.retK [] [] [] rfl rfl Try.func28 rfl trivial ⟨rfl, rfl, rfl⟩

theorem Try.Kept0_w (w : World) : Fun Try.prog 29 [.pointer none] w (.slice none 0 0) := by
  refine Tri.enter (bx := []) (hp := []) Try.func29 rfl (by kernel_rfl) rfl (Own.nil w) ?_
  refine At.run 100 true [true] [] rfl (by (repeat' apply And.intro) <;> first | exact True.intro | omega | (simp only [inK]; omega) | (simp; done) | (simp; omega) | exact decide_eq_true (by omega) | exact decide_eq_false (by omega) | rfl | (simp [Value.oneCell']; done) | exact i64s_one _ | exact AggOk.mk (by kernel_rfl) (by kernel_rfl)) ?_
  exact At.retK [] [] [] rfl rfl Try.func29 rfl trivial ⟨rfl, rfl, rfl⟩

theorem Try.Sync0_w (w : World) : Fun Try.prog 40 [.pointer none] w (.int .i64 1) := by
  refine Tri.enter (bx := []) (hp := []) Try.func40 rfl (by kernel_rfl) rfl (Own.nil w) ?_
  refine At.run 100 true [true] [] rfl (by (repeat' apply And.intro) <;> first | exact True.intro | omega | (simp only [inK]; omega) | (simp; done) | (simp; omega) | exact decide_eq_true (by omega) | exact decide_eq_false (by omega) | rfl | (simp [Value.oneCell']; done) | exact i64s_one _ | exact AggOk.mk (by kernel_rfl) (by kernel_rfl)) ?_
  exact At.retK [] [] [] rfl rfl Try.func40 rfl trivial ⟨rfl, rfl, rfl⟩

theorem Try.Cut0_w (n : List UInt8) (at0 : Int) (w : World) : Fun Try.prog 42 [.pointer none, str n, .int .i64 at0] w (.int .i64 1) := by
  refine Tri.enter (bx := []) (hp := []) Try.func42 rfl (by kernel_rfl) rfl (Own.nil w) ?_
  refine At.run 100 true [true] [] rfl (by (repeat' apply And.intro) <;> first | exact True.intro | omega | (simp only [inK]; omega) | (simp; done) | (simp; omega) | exact decide_eq_true (by omega) | exact decide_eq_false (by omega) | rfl | (simp [Value.oneCell']; done) | exact i64s_one _ | exact AggOk.mk (by kernel_rfl) (by kernel_rfl)) ?_
  exact At.retK [] [] [] rfl rfl Try.func42 rfl trivial ⟨rfl, rfl, rfl⟩

theorem Try.Write0_w (n : List UInt8) (at0 : Int) (s : List UInt8) (w : World) : Fun Try.prog 22 [.pointer none, str n, .int .i64 at0, str s] w (.int .i64 1) := by
  refine Tri.enter (bx := []) (hp := []) Try.func22 rfl (by kernel_rfl) rfl (Own.nil w) ?_
  refine At.run 100 true [] [] rfl trivial ?_
  refine At.step [] rfl rfl rfl rfl rfl trivial (OpOk.box rfl rfl rfl fun bq hbq => ?_)
  refine At.step [] rfl rfl rfl rfl rfl trivial (OpOk.box rfl rfl rfl fun bq hbq => ?_)
  refine At.step [] rfl rfl rfl rfl rfl trivial (OpOk.box rfl rfl rfl fun bq hbq => ?_)
  refine At.run 100 true [true, true, true] [] rfl (by (repeat' apply And.intro) <;> first | exact True.intro | omega | (simp only [inK]; omega) | (simp; done) | (simp; omega) | exact decide_eq_true (by omega) | exact decide_eq_false (by omega) | rfl | (simp [Value.oneCell']; done) | exact i64s_one _ | exact AggOk.mk (by kernel_rfl) (by kernel_rfl)) ?_
  exact At.retK [] [] [] rfl rfl Try.func22 rfl trivial ⟨rfl, rfl, rfl⟩

theorem Try.Crash0_w (fv : Value) (w : World) : Fun Try.prog 24 [.pointer none, fv] w (.int .i64 1) := by
  refine Tri.enter (bx := []) (hp := []) Try.func24 rfl (by kernel_rfl) rfl (Own.nil w) ?_
  refine At.run 100 true [true] [] rfl (by (repeat' apply And.intro) <;> first | exact True.intro | omega | (simp only [inK]; omega) | (simp; done) | (simp; omega) | exact decide_eq_true (by omega) | exact decide_eq_false (by omega) | rfl | (simp [Value.oneCell']; done) | exact i64s_one _ | exact AggOk.mk (by kernel_rfl) (by kernel_rfl)) ?_
  exact At.retK [] [] [] rfl rfl Try.func24 rfl trivial ⟨rfl, rfl, rfl⟩

end Go.Proofs

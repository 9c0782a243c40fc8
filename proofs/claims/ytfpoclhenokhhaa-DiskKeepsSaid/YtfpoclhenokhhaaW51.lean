/-
  Walks of layer 9: the names of files, in an order of their own.
-/
import Derived.Test.YtfpoclhenokhhaaW50
namespace Go.Proofs
open Go Go.Eng
set_option maxRecDepth 100000
set_option maxHeartbeats 4000000
attribute [local irreducible] Tri

/-- The names at some places. -/
def someN (F : List FileE) (T : List Nat) : List (List UInt8) := T.filterMap fun i => (F[i]?).map (·.name)
theorem someN_snoc {F : List FileE} {T : List Nat} {i : Nat} {f : FileE} (h : F[i]? = some f) : someN F (T ++ [i]) = someN F T ++ [f.name] := by simp [someN, h]
theorem someN_nb (F : List FileE) (T : List Nat) : someN F T = (someF F T).map (·.1) := by
  unfold someN someF
  rw [List.map_filterMap]
  congr 1
  funext i
  cases F[i]? <;> rfl
theorem someN_all {F : List FileE} {T : List Nat} (hp : T.Perm (List.range F.length)) : (someN F T).Perm (F.map FileE.name) := by
  rw [someN_nb]
  have := (someF_all hp).map (·.1)
  have e : (nbs F).map (·.1) = F.map FileE.name := by simp only [nbs, List.map_map]; rfl
  rw [e] at this; exact this
theorem ones_len {F : List FileE} : ∀ {T : List Nat}, (∀ i, i ∈ T → i < F.length) → (T.map (atF F fun _ => 1)).sum = T.length ∧ (someN F T).length = T.length
  | [], _ => ⟨rfl, rfl⟩
  | i :: T, hT => by
    have hi := hT i (by simp)
    obtain ⟨h1, h2⟩ := ones_len (T := T) (fun k hk => hT k (List.mem_cons_of_mem _ hk))
    have hg := List.getElem?_eq_getElem hi
    constructor
    · rw [List.map_cons, List.sum_cons, h1, List.length_cons]
      simp only [atF, hg]; omega
    · have : someN F (i :: T) = F[i].name :: someN F T := by simp [someN, hg]
      rw [this, List.length_cons, h2, List.length_cons]
theorem someN_len {F : List FileE} {T : List Nat} (hn : T.Nodup) (hT : ∀ i, i ∈ T → i < F.length) : (someN F T).length ≤ F.length := by
  obtain ⟨h1, h2⟩ := ones_len hT
  have := sum_part F (fun _ => 1) hn hT
  have e : ∀ G : List FileE, (G.map fun _ => (1 : Nat)).sum = G.length := by
    intro G
    induction G with
    | nil => rfl
    | cons g G ih => rw [List.map_cons, List.sum_cons, ih, List.length_cons]; omega
  have e1 := e F
  omega

theorem Try.Keys_w (m : Nat) (w : World) : Tri Try.prog 103 [.map (some m)] w [] (fun v bx hp => ∃ b, v = .func (.func 125) ⟨[]⟩ ⟨[.pointer (some ⟨b, 0, none⟩)]⟩ ∧ bx = [(b, 109, [.map (some m)])] ∧ hp = []) := by
  refine Tri.enter (bx := []) (hp := []) Try.func103 rfl (by kernel_rfl) rfl (Own.nil w) ?_
  refine At.run 100 true [] [] rfl trivial ?_
  refine At.step [] rfl rfl rfl rfl rfl trivial (OpOk.box rfl rfl rfl fun b hb => ?_)
  refine At.run 100 true [] [] rfl (by (repeat' apply And.intro) <;> first | exact True.intro | omega | (simp only [inK]; omega) | (simp; done) | (simp; omega) | exact decide_eq_true (by omega) | exact decide_eq_false (by omega) | rfl | (simp [Value.oneCell']; done) | exact i64s_one _ | exact AggOk.mk (by kernel_rfl) (by kernel_rfl)) ?_
  exact At.ret [] rfl Try.func103 rfl trivial ⟨b, rfl, rfl, rfl⟩

theorem Try.keys1_w (b m : Nat) (F : List FileE) (w : World) (hF : MapIs w m .string (F.map FileE.ent)) :
    IterP Try.prog 125 [.pointer (some ⟨b, 0, none⟩)] [(b, 109, [.map (some m)])] [m] (fun n => [str n]) (fun pre => pre.length ≤ F.length) (fun xs => xs.Perm (F.map FileE.name)) w := by
  intro y s0 J hJ hown hfree hyield
  refine Tri.enter Try.func125 rfl (by kernel_rfl) rfl hown ?_
  obtain ⟨es, clock, hbm, hst, hks, hL⟩ := hF
  have hlt := (Array.getElem?_eq_some_iff.1 hbm).1
  have hm0 : m ∉ kys [(b, 109, [.map (some m)])] [s0] := hfree m (by simp)
  have hM : ∀ {bx : Bx} {hp : List Seg} {w' : World}, WOk ⟨w, kys [(b, 109, [.map (some m)])] [s0]⟩ bx hp w' → w'.heap[m]? = some (.map es clock) := fun {_ _ w'} hw' => by rw [hw'.ext.block m hlt hm0]; exact hbm
  have hes : es.size = F.length := by have := congrArg List.length hL; simpa using this
  refine At.run 100 true [] [hB 0] rfl (by (repeat' apply And.intro) <;> first | exact True.intro | omega | (simp only [inK]; omega) | (simp; done) | (simp; omega) | exact decide_eq_true (by omega) | exact decide_eq_false (by omega) | rfl | (simp [Value.oneCell']; done) | exact i64s_one _ | exact AggOk.mk (by kernel_rfl) (by kernel_rfl)) ?_
  refine At.step [] rfl rfl rfl rfl rfl trivial (OpOk.rangeMap rfl rfl Try.filesT (fun w' hw' => hM hw') fun r => ?_)
  refine At.run 100 true [] [] rfl (by (repeat' apply And.intro) <;> first | exact True.intro | omega | (simp only [inK]; omega) | (simp; done) | (simp; omega) | exact decide_eq_true (by omega) | exact decide_eq_false (by omega) | rfl | (simp [Value.oneCell']; done) | exact i64s_one _ | exact AggOk.mk (by kernel_rfl) (by kernel_rfl)) ?_
  refine At.loop (n := leftN F.length []) (env0 := [(0, .func (.yield y) #[] #[]), (5, .pointer (some ⟨r, 0, none⟩))]) (fun k env bx hp => ∃ (T : List Nat) (s : Seg), k = leftN F.length T ∧ T.Nodup ∧ (∀ i, i ∈ T → i < F.length) ∧ J (someN F T) s ∧
    env = [(0, .func (.yield y) #[] #[]), (5, .pointer (some ⟨r, 0, none⟩))] ∧ bx = [(b, 109, [.map (some m)])] ∧ hp = [Seg.iter r m es clock T, s]) rfl ⟨[], s0, by simp, by simp, by simp, hJ, rfl, rfl, rfl⟩ ⟨rfl, rfl, trivial⟩ ?_
  rintro k env bx hp ⟨T, s, rfl, hn, hT, hJT, rfl, rfl, rfl⟩ ih
  refine At.run 100 true [] [] rfl trivial ?_
  refine At.step [] rfl rfl rfl rfl rfl trivial (OpOk.nextMap 0 rfl rfl rfl (fun w' hw' => hM hw') hst (fun i hi => by rw [hes]; exact hT i hi) (fun hall => ?_) (fun i e hi he => ?_))
  · have hp := perm_range hn hT (fun i hi => hall i (by rw [hes]; exact hi))
    refine At.run 100 true [false] [] rfl (by (repeat' apply And.intro) <;> first | exact True.intro | omega | (simp only [inK]; omega) | (simp; done) | (simp; omega) | exact decide_eq_true (by omega) | exact decide_eq_false (by omega) | rfl | (simp [Value.oneCell']; done) | exact i64s_one _ | exact AggOk.mk (by kernel_rfl) (by kernel_rfl)) ?_
    refine At.keep [true] [false, true] rfl ?_
    exact At.ret [] rfl Try.func125 rfl trivial ⟨rfl, s, rfl, someN F T, someN_all hp, hJT⟩
  · have hil : i < F.length := by rw [← hes]; exact (Array.getElem?_eq_some_iff.1 he).1
    obtain ⟨f, hf⟩ : ∃ f, F[i]? = some f := ⟨_, List.getElem?_eq_getElem hil⟩
    have hee : (e.key, e.val) = f.ent := by
      have h1 : (es.toList.map fun e => (e.key, e.val))[i]? = some (e.key, e.val) := by rw [List.getElem?_map, Array.getElem?_toList, he]; rfl
      rw [hL, List.getElem?_map, hf] at h1
      exact (Option.some.inj h1).symm
    obtain ⟨kk, v, born⟩ := e
    simp only [FileE.ent, Prod.mk.injEq] at hee
    obtain ⟨rfl, rfl⟩ := hee
    simp only
    have hT' := lt_snoc hT hil
    have hn' := nodup_snoc hn hi
    refine At.run 100 true [true] [] rfl (by (repeat' apply And.intro) <;> first | exact True.intro | omega | (simp only [inK]; omega) | (simp; done) | (simp; omega) | exact decide_eq_true (by omega) | exact decide_eq_false (by omega) | rfl | (simp [Value.oneCell']; done) | exact i64s_one _ | exact AggOk.mk (by kernel_rfl) (by kernel_rfl)) ?_
    refine At.step [] rfl rfl rfl rfl rfl trivial (OpOk.entryMap (T := T) (i := i) 0 rfl rfl rfl (fun w' hw' => hM hw') hst he ?_)
    simp only
    refine At.run 100 true [] [] rfl (by (repeat' apply And.intro) <;> first | exact True.intro | omega | (simp only [inK]; omega) | (simp; done) | (simp; omega) | exact decide_eq_true (by omega) | exact decide_eq_false (by omega) | rfl | (simp [Value.oneCell']; done) | exact i64s_one _ | exact AggOk.mk (by kernel_rfl) (by kernel_rfl)) ?_
    refine At.yield [] rfl rfl rfl rfl rfl trivial (lp := y) (args := [str f.name]) rfl [] [false, true] (bm := []) (hm := [s]) (br := [(b, 109, [.map (some m)])]) (hr := [Seg.iter r m es clock (T ++ [i])]) (Q := fun bx hp => bx = [] ∧ ∃ s', hp = [s'] ∧ J (someN F T ++ [f.name]) s') rfl
      (fun w' hw' => hyield (someN F T) f.name s w' (by rw [← someN_snoc hf]; exact someN_len hn' hT') hJT (hw'.toOwn.sel [] [false, true] rfl) hw'.ext) ?_
    rintro _ _ ⟨rfl, s', rfl, hJ'⟩
    refine At.run 100 true [false] [] rfl (by (repeat' apply And.intro) <;> first | exact True.intro | omega | (simp only [inK]; omega) | (simp; done) | (simp; omega) | exact decide_eq_true (by omega) | exact decide_eq_false (by omega) | rfl | (simp [Value.oneCell']; done) | exact i64s_one _ | exact AggOk.mk (by kernel_rfl) (by kernel_rfl)) ?_
    refine At.order [] [1] rfl rfl ?_
    exact At.weak (ih _ _ _ _ (leftN_snoc hil hi) ⟨T ++ [i], s', rfl, hn', hT', by rw [someN_snoc hf]; exact hJ', rfl, rfl, rfl⟩) ⟨rfl, rfl, trivial⟩

theorem Try.appendSeq_w (b m : Nat) (F : List FileE) (w : World) (hown : Own [(b, 109, [.map (some m)])] [] w) (hF : MapIs w m .string (F.map FileE.ent)) (hlen : F.length ≤ 1000000) :
    Tri Try.prog 157 [.slice none 0 0, .func (.func 125) ⟨[]⟩ ⟨[.pointer (some ⟨b, 0, none⟩)]⟩] w (kys [(b, 109, [.map (some m)])] [])
      (fun v bx hp => ∃ a c xs, v = sv a xs.length c ∧ bx = [(b, 109, [.map (some m)])] ∧ hp = [Seg.row a 9 1 xs.length c (strs xs)] ∧ xs.Perm (F.map FileE.name)) := by
  refine Tri.enter (bx := [(b, 109, [.map (some m)])]) (hp := []) Try.func157 rfl (by kernel_rfl) rfl hown ?_
  have hb0 := hown.bx (b, 109, [.map (some m)]) (by simp)
  have hmb : m ∉ kys [(b, 109, [.map (some m)])] [] := by
    intro h
    have : m = b := by simpa [kys] using h
    subst this
    obtain ⟨es, clock, h1, -⟩ := hF
    rw [hb0] at h1; cases h1
  refine At.run 100 true [] [] rfl trivial ?_
  refine At.step [] rfl rfl rfl rfl rfl trivial (OpOk.box rfl rfl rfl fun b2 hb2 => ?_)
  refine At.run 100 true [] [] rfl (by (repeat' apply And.intro) <;> first | exact True.intro | omega | (simp only [inK]; omega) | (simp; done) | (simp; omega) | exact decide_eq_true (by omega) | exact decide_eq_false (by omega) | rfl | (simp [Value.oneCell']; done) | exact i64s_one _ | exact AggOk.mk (by kernel_rfl) (by kernel_rfl)) ?_
  refine At.nilRow 9 1 ?_
  refine At.order [1] [] rfl rfl ?_
  refine At.rangeP (bi := [(b, 109, [.map (some m)])]) (bc := [(b2, 164, [sv none 0 0])]) (hp := [Seg.row none 9 1 0 0 []]) rfl rfl rfl (rd := [m]) (fun k hk => by
      simp only [List.mem_singleton] at hk; subst hk; exact ⟨hF.lt, hmb⟩)
    (enc := fun n : List UInt8 => [str n]) (okp := fun pre : List (List UInt8) => pre.length ≤ F.length) (fin := fun xs : List (List UInt8) => xs.Perm (F.map FileE.name)) (fun _ => rfl) rfl
    (fun pre bx hp => ∃ a1 cap1, bx = [(b2, 164, [sv a1 pre.length cap1])] ∧ hp = [Seg.row a1 9 1 pre.length cap1 (strs pre)]) ⟨none, 0, rfl, rfl⟩
    (fun w' hext => Try.keys1_w b m F w' (hF.ext hext hmb)) ?_ ?_
  · rintro lp D tm pre x bx hp w' hpre ⟨a1, cap1, rfl, rfl⟩ hext
    simp only [List.length_append, List.length_singleton] at hpre
    refine At.run 100 true [] [] rfl trivial ?_
    refine At.begin ?_
    refine At.run 100 true [] [hB 0] rfl (by (repeat' apply And.intro) <;> first | exact True.intro | omega | (simp only [inK]; omega) | (simp; done) | (simp; omega) | exact decide_eq_true (by omega) | exact decide_eq_false (by omega) | rfl | (simp [Value.oneCell']; done) | exact i64s_one _ | exact AggOk.mk (by kernel_rfl) (by kernel_rfl)) ?_
    refine At.append1 1 1 16 rfl rfl rfl rfl rfl rfl rfl rfl rfl trivial (fun _ => rfl) trivial rfl rfl rfl rfl rfl rfl rfl rfl (fun _ => rfl) (by simp [Value.oneCell', str]) (by omega) (by omega) (fun bb a2 cap2 => ?_)
    refine At.run 100 true [] [hB 0] rfl (by (repeat' apply And.intro) <;> first | exact True.intro | omega | (simp only [inK]; omega) | (simp; done) | (simp; omega) | exact decide_eq_true (by omega) | exact decide_eq_false (by omega) | rfl | (simp [Value.oneCell']; done) | exact i64s_one _ | exact AggOk.mk (by kernel_rfl) (by kernel_rfl)) ?_
    exact At.roundEnd ⟨_, rfl, a2, cap2, by simp [setL], by simp [strs, setL]⟩
  · rintro D bx' hp' xs hfin ⟨a1, cap1, rfl, rfl⟩
    refine At.run 100 true [] [hB 1] rfl (by (repeat' apply And.intro) <;> first | exact True.intro | omega | (simp only [inK]; omega) | (simp; done) | (simp; omega) | exact decide_eq_true (by omega) | exact decide_eq_false (by omega) | rfl | (simp [Value.oneCell']; done) | exact i64s_one _ | exact AggOk.mk (by kernel_rfl) (by kernel_rfl)) ?_
    refine At.keep [true] [true, true] rfl ?_
    exact At.retC (hp := [_]) [] rfl Try.func157 rfl trivial ⟨a1, cap1, xs, rfl, rfl, rfl, hfin⟩

end Go.Proofs

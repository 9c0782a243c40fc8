/-
  Walks of layer 9: files listed.
-/
import Derived.Test.YtfpoclhenokhhaaW51
import Derived.Test.YtfpoclhenokhhaaP22
namespace Go.Proofs
open Go Go.Eng
set_option maxRecDepth 100000
set_option maxHeartbeats 4000000
attribute [local irreducible] Tri

def Try.seqV (b : Nat) : Value := .func (.func 125) ⟨[]⟩ ⟨[.pointer (some ⟨b, 0, none⟩)]⟩

theorem Try.collect_w (b m : Nat) (F : List FileE) (w : World) (hown : Own [(b, 109, [.map (some m)])] [] w) (hF : MapIs w m .string (F.map FileE.ent)) (hlen : F.length ≤ 1000000) :
    Tri Try.prog 123 [.func (.func 125) ⟨[]⟩ ⟨[.pointer (some ⟨b, 0, none⟩)]⟩] w (kys [(b, 109, [.map (some m)])] [])
      (fun v bx hp => ∃ a c xs, v = sv a xs.length c ∧ bx = [(b, 109, [.map (some m)])] ∧ hp = [Seg.row a 9 1 xs.length c (strs xs)] ∧ xs.Perm (F.map FileE.name)) := by
  refine Tri.enter (bx := [(b, 109, [.map (some m)])]) (hp := []) Try.func123 rfl (by kernel_rfl) rfl hown ?_
  have hb0 := hown.bx (b, 109, [.map (some m)]) (by simp)
  have hmb : m ∉ kys [(b, 109, [.map (some m)])] [] := by
    intro h
    have : m = b := by simpa [kys] using h
    subst this
    obtain ⟨es, clock, h1, -⟩ := hF
    rw [hb0] at h1; cases h1
  refine At.run 100 true [] [] rfl (by (repeat' apply And.intro) <;> first | exact True.intro | omega | (simp only [inK]; omega) | (simp; done) | (simp; omega) | exact decide_eq_true (by omega) | exact decide_eq_false (by omega) | rfl | (simp [Value.oneCell']; done) | exact i64s_one _ | exact AggOk.mk (by kernel_rfl) (by kernel_rfl)) ?_
  refine At.step [] rfl rfl rfl rfl rfl trivial (OpOk.callAll rfl (fun w' hw' => Try.appendSeq_w b m F w' hw'.toOwn (hF.ext hw'.ext hmb) hlen) ?_)
  rintro v bx' hp' ⟨a, c, xs, rfl, rfl, rfl, hp⟩
  refine At.run 100 true [] [] rfl (by (repeat' apply And.intro) <;> first | exact True.intro | omega | (simp only [inK]; omega) | (simp; done) | (simp; omega) | exact decide_eq_true (by omega) | exact decide_eq_false (by omega) | rfl | (simp [Value.oneCell']; done) | exact i64s_one _ | exact AggOk.mk (by kernel_rfl) (by kernel_rfl)) ?_
  exact At.ret [] rfl Try.func123 rfl trivial ⟨a, c, xs, rfl, rfl, rfl, hp⟩

theorem Try.sort0_w (p : Option Addr) (cap : Nat) (w : World) : Fun Try.prog 124 [.slice p 0 cap] w (.tuple #[]) := by
  refine Tri.mk ⟨_, Try.func124, rfl, by decide⟩ ?_
  refine (Try.slices_Sort_string_none p cap w).mono ?_
  rintro e w' ⟨rfl, rfl⟩
  exact ⟨_, [], [], rfl, ⟨rfl, rfl, rfl⟩, Ext.refl _ _, ⟨by simp [kys], by simp [kys], by simp, by simp⟩, by simp [kys]⟩

theorem Try.sorted_w (b m : Nat) (F : List FileE) (w : World) (hown : Own [(b, 109, [.map (some m)])] [] w) (hF : MapIs w m .string (F.map FileE.ent)) (hlen : F.length ≤ 1000000) :
    Tri Try.prog 102 [.func (.func 125) ⟨[]⟩ ⟨[.pointer (some ⟨b, 0, none⟩)]⟩] w (kys [(b, 109, [.map (some m)])] [])
      (fun v bx hp => ∃ a c, v = sv a F.length c ∧ bx = [] ∧ hp = [Seg.row a 9 1 F.length c (strs (sortN (F.map FileE.name)))]) := by
  refine Tri.enter (bx := [(b, 109, [.map (some m)])]) (hp := []) Try.func102 rfl (by kernel_rfl) rfl hown ?_
  have hb0 := hown.bx (b, 109, [.map (some m)]) (by simp)
  have hmb : m ∉ kys [(b, 109, [.map (some m)])] [] := by
    intro h
    have : m = b := by simpa [kys] using h
    subst this
    obtain ⟨es, clock, h1, -⟩ := hF
    rw [hb0] at h1; cases h1
  refine At.run 100 true [] [] rfl (by (repeat' apply And.intro) <;> first | exact True.intro | omega | (simp only [inK]; omega) | (simp; done) | (simp; omega) | exact decide_eq_true (by omega) | exact decide_eq_false (by omega) | rfl | (simp [Value.oneCell']; done) | exact i64s_one _ | exact AggOk.mk (by kernel_rfl) (by kernel_rfl)) ?_
  refine At.step [] rfl rfl rfl rfl rfl trivial (OpOk.callAll rfl (fun w' hw' => Try.collect_w b m F w' hw'.toOwn (hF.ext hw'.ext hmb) hlen) ?_)
  rintro v bx' hp' ⟨a, c, xs, rfl, rfl, rfl, hp⟩
  have hxl : xs.length = F.length := by rw [hp.length_eq]; simp
  have hso : sortN xs = sortN (F.map FileE.name) := by
    refine List.Perm.eq_of_pairwise (le := fun a b => leN a b = true) (fun x y _ _ h1 h2 => ?_) (sortN_pair _) (sortN_pair _) ((sortN_perm _).trans (hp.trans (sortN_perm _).symm))
    rw [leN_iff] at h1 h2
    rcases less_tri x y with h | h | h
    · rw [h] at h2; cases h2
    · exact h
    · rw [h] at h1; cases h1
  rw [← hso]
  by_cases h0 : xs.length = 0
  · have hx : xs = [] := List.length_eq_zero_iff.1 h0
    subst hx
    have hS0 : ∀ {bx : Bx} {hp : List Seg}, CallOb Try.prog ⟨w, kys [(b, 109, [.map (some m)])] []⟩ bx hp 124 [.slice (svA a) 0 c] (.tuple #[]) := fun {_ _} w' _ => Try.sort0_w _ _ w'
    refine At.run 100 true [] [hC (.tuple #[])] rfl (by (repeat' apply And.intro) <;> first | exact hS0 | exact True.intro | omega | rfl | (simp only [inK]; omega) | exact decide_eq_true (by omega) | exact decide_eq_false (by omega) | (simp; done) | (simp; omega) | (simp [Value.oneCell']; done) | exact i64s_one _ | exact AggOk.mk (by kernel_rfl) (by kernel_rfl)) ?_
    refine At.keep [] [true] rfl ?_
    exact At.ret [] rfl Try.func102 rfl trivial ⟨a, c, by rw [← hxl]; rfl, rfl, by rw [← hxl, show sortN [] = [] from List.mergeSort_nil]⟩
  · refine At.rowSome 0 rfl (by omega) (fun g hg => ?_)
    subst hg
    refine At.run 100 true [] [] rfl (by (repeat' apply And.intro) <;> first | exact True.intro | omega | (simp only [inK]; omega) | (simp; done) | (simp; omega) | exact decide_eq_true (by omega) | exact decide_eq_false (by omega) | rfl | (simp [Value.oneCell']; done) | exact i64s_one _ | exact AggOk.mk (by kernel_rfl) (by kernel_rfl)) ?_
    refine At.step [] rfl rfl rfl rfl rfl trivial (OpOk.callO [] [true] rfl rfl (fun w' hw' ho => Try.sort_w g xs.length c xs w' ho rfl (by omega)) ?_)
    rintro v bx' hp' ⟨rfl, rfl, rfl⟩
    refine At.run 100 true [] [] rfl (by (repeat' apply And.intro) <;> first | exact True.intro | omega | (simp only [inK]; omega) | (simp; done) | (simp; omega) | exact decide_eq_true (by omega) | exact decide_eq_false (by omega) | rfl | (simp [Value.oneCell']; done) | exact i64s_one _ | exact AggOk.mk (by kernel_rfl) (by kernel_rfl)) ?_
    refine At.keep [] [true] rfl ?_
    exact At.ret [] rfl Try.func102 rfl trivial ⟨some g, c, by rw [← hxl]; rfl, rfl, by rw [← hxl]; rfl⟩

theorem Try.list_w (m : Nat) (F : List FileE) (w : World) (hF : FilesOk w 5 m F) (hlen : F.length ≤ 1000000) :
    Tri Try.prog 73 [.map (some m)] w [] (fun v bx hp => ∃ a c, v = sv a F.length c ∧ bx = [] ∧ hp = [Seg.row a 56 2 F.length c (fl (ordN (nbs F)))]) := by
  refine Tri.enter (bx := []) (hp := []) Try.func73 rfl (by kernel_rfl) rfl (Own.nil w) ?_
  refine At.run 100 true [] [] rfl (by (repeat' apply And.intro) <;> first | exact True.intro | omega | (simp only [inK]; omega) | (simp; done) | (simp; omega) | exact decide_eq_true (by omega) | exact decide_eq_false (by omega) | rfl | (simp [Value.oneCell']; done) | exact i64s_one _ | exact AggOk.mk (by kernel_rfl) (by kernel_rfl)) ?_
  refine At.step [] rfl rfl rfl rfl rfl trivial (OpOk.call rfl (fun w' hw' => Try.Keys_w m w') ?_)
  rintro v bx' hp' ⟨b, rfl, rfl, rfl⟩
  refine At.run 100 true [] [] rfl (by (repeat' apply And.intro) <;> first | exact True.intro | omega | (simp only [inK]; omega) | (simp; done) | (simp; omega) | exact decide_eq_true (by omega) | exact decide_eq_false (by omega) | rfl | (simp [Value.oneCell']; done) | exact i64s_one _ | exact AggOk.mk (by kernel_rfl) (by kernel_rfl)) ?_
  refine At.step [] rfl rfl rfl rfl rfl trivial (OpOk.callO [true] [] rfl rfl (fun w' hw' ho => Try.sorted_w b m F w' ho (hF.ext hw'.ext (by simp [kys])).map hlen) ?_)
  rintro v bx' hp' ⟨a8, c8, rfl, rfl, rfl⟩
  have hnames := hF.names
  have hns : sortN (F.map FileE.name) = (ordN (nbs F)).map (·.1) := by
    have e : (nbs F).map (·.1) = F.map FileE.name := by simp only [nbs, List.map_map]; rfl
    unfold ordN pickN
    rw [List.map_map, e]
    conv => lhs; rw [← List.map_id (sortN (F.map FileE.name))]
    rfl
  have hsl : (sortN (F.map FileE.name)).length = F.length := by rw [(sortN_perm _).length_eq]; simp
  have hol : (ordN (nbs F)).length = F.length := by rw [← hsl, hns]; simp
  obtain ⟨R, hRR⟩ : ∃ R, R = ordN (nbs F) := ⟨_, rfl⟩
  rw [← hRR] at hns hol ⊢
  rw [hns]
  refine At.run 100 true [] [] rfl (by (repeat' apply And.intro) <;> first | exact True.intro | omega | (simp only [inK]; omega) | (simp; done) | (simp; omega) | exact decide_eq_true (by omega) | exact decide_eq_false (by omega) | rfl | (simp [Value.oneCell']; done) | exact i64s_one _ | exact AggOk.mk (by kernel_rfl) (by kernel_rfl)) ?_
  refine At.nilRow 56 2 ?_
  refine At.loop (n := F.length) (env0 := [(0, .map (some m)), (3, sv none 0 0), (8, sv a8 F.length c8), (9, .int .i64 F.length), (10, .int .i64 0)]) (fun k env bx hp => ∃ (i : Nat) (a1 : Option Nat) (c1 : Nat), k = F.length - i ∧ i ≤ F.length ∧
    env = [(0, .map (some m)), (3, sv a1 i c1), (8, sv a8 F.length c8), (9, .int .i64 F.length), (10, .int .i64 i)] ∧ bx = [] ∧ hp = [Seg.row a1 56 2 i c1 (fl (R.take i)), Seg.row a8 9 1 F.length c8 (strs (R.map (·.1)))]) rfl ⟨0, none, 0, by simp, by omega, rfl, rfl, rfl⟩ ⟨rfl, rfl, rfl, rfl, rfl, trivial⟩ ?_
  rintro k env bx hp ⟨i, a1, c1, rfl, hi, rfl, rfl, rfl⟩ ih
  by_cases hlt : i < F.length
  · refine At.rowSome 1 rfl (by omega) (fun g8 hg8 => ?_)
    subst hg8
    obtain ⟨p, hp⟩ : ∃ p, R[i]? = some p := ⟨_, List.getElem?_eq_getElem (by omega)⟩
    have hpm : p ∈ nbs F := by
      have h1 := List.mem_of_getElem? hp
      rw [hRR] at h1
      have hn2 : ((nbs F).map (·.1)).Nodup := by
        have e : (nbs F).map (·.1) = F.map (·.name) := by simp only [nbs, List.map_map]; rfl
        rw [e]; exact hnames
      exact (ordN_perm hn2).mem_iff.1 h1
    obtain ⟨f, hf, rfl⟩ := List.mem_map.1 hpm
    have hg : getF F f.name = some f := by
      unfold getF
      cases h : F.find? (fun x => decide (x.name = f.name)) with
      | none => have := List.find?_eq_none.1 h f hf; simp at this
      | some q =>
        have h1 := List.mem_of_find?_eq_some h
        have h2 : q.name = f.name := by simpa using List.find?_some h
        obtain ⟨j1, hj1⟩ := List.mem_iff_getElem?.1 h1
        obtain ⟨j2, hj2⟩ := List.mem_iff_getElem?.1 hf
        have b1 : (F.map (·.name))[j1]? = some f.name := by rw [List.getElem?_map, hj1]; simp [h2]
        have b2 : (F.map (·.name))[j2]? = some f.name := by rw [List.getElem?_map, hj2]; rfl
        have := (List.getElem?_inj (List.getElem?_eq_some_iff.1 b1).1 hnames).1 (b1.trans b2.symm)
        subst this
        rw [hj1] at hj2; exact hj2
    have hv : valF F f.name = sv (some f.g) f.bytes.length f.cap := by simp [valF, hg]
    have hLk : ∀ {bx : Bx} {hp : List Seg}, LookOb Try.prog ⟨w, kys [] []⟩ bx hp 109 (.map (some m)) (str f.name) false (valF F f.name) := fun {_ _} => LookOb.file Try.filesT Try.strT Try.zeroBytes (fun w' hw' => hF.ext (t := 5) hw'.ext (by simp [kys]))
    rw [hv] at hLk
    have rN : ∀ {bx : Bx} {s0 : Seg}, RdW ⟨w, kys [] []⟩ bx [s0, Seg.row (some g8) 9 1 F.length c8 (strs (R.map (·.1)))] g8 (0 + (i : Int).toNat * 1) [str f.name] := fun {_ _} => RdW.row (j := 1) rfl (fun j u hu => by
      match j, hu with
      | 0, hu => simp at hu; subst hu; rw [show 0 + (i : Int).toNat * 1 + 0 = i by omega]; simp [strs, hp, FileE.nb])
    refine At.run 100 true [true] [hR [str f.name], hL (sv (some f.g) f.bytes.length f.cap)] rfl (by (repeat' apply And.intro) <;> first | exact rN | exact hLk | exact True.intro | omega | rfl | (simp only [inK]; omega) | exact decide_eq_true (by omega) | exact decide_eq_false (by omega) | (simp; done) | (simp; omega) | (simp [Value.oneCell']; done) | exact i64s_one _ | exact AggOk.mk (by kernel_rfl) (by kernel_rfl)) ?_
    refine At.step [] rfl rfl rfl rfl rfl trivial (OpOk.toStrR f.bytes rfl rfl rfl rfl rfl rfl (fun w' hw' => ?_) ?_)
    · have hrow := (hF.ext hw'.ext (by simp [kys])).row f hf
      intro j u hu
      rw [Nat.zero_add]; exact hrow.cell hu
    refine At.run 100 true [] [] rfl (by (repeat' apply And.intro) <;> first | exact True.intro | omega | (simp only [inK]; omega) | (simp; done) | (simp; omega) | exact decide_eq_true (by omega) | exact decide_eq_false (by omega) | rfl | (simp [Value.oneCell']; done) | exact i64s_one _ | exact AggOk.mk (by kernel_rfl) (by kernel_rfl)) ?_
    refine At.append1 0 2 32 rfl rfl rfl rfl rfl rfl rfl rfl rfl trivial (fun _ => rfl) trivial rfl rfl rfl rfl rfl rfl rfl rfl (fun _ => rfl) (by simp [Value.oneCell', str]) (by omega) (by omega) (fun bb a2 c2 => ?_)
    refine At.run 100 true [] [] rfl (by (repeat' apply And.intro) <;> first | exact True.intro | omega | (simp only [inK]; omega) | (simp; done) | (simp; omega) | exact decide_eq_true (by omega) | exact decide_eq_false (by omega) | rfl | (simp [Value.oneCell']; done) | exact i64s_one _ | exact AggOk.mk (by kernel_rfl) (by kernel_rfl)) ?_
    refine At.weak (ih _ _ _ _ (by omega) ⟨i + 1, a2, c2, rfl, by omega, rfl, rfl, ?_⟩) ⟨rfl, rfl, rfl, rfl, some_int_eq (by omega), trivial⟩
    have e : fl (R.take (i + 1)) = fl (R.take i) ++ [str f.name, str f.bytes] := by
      rw [List.take_add_one, hp]
      exact fl_snoc _ _
    rw [e]
    rfl
  · have hti : R.take i = R := List.take_of_length_le (by omega)
    have hie : i = F.length := by omega
    subst hie
    rw [hti]
    refine At.run 100 true [false] [] rfl (by (repeat' apply And.intro) <;> first | exact True.intro | omega | (simp only [inK]; omega) | (simp; done) | (simp; omega) | exact decide_eq_true (by omega) | exact decide_eq_false (by omega) | rfl | (simp [Value.oneCell']; done) | exact i64s_one _ | exact AggOk.mk (by kernel_rfl) (by kernel_rfl)) ?_
    refine At.keep [] [true] rfl ?_
    exact At.ret [] rfl Try.func73 rfl trivial ⟨a1, c1, rfl, rfl, rfl⟩

theorem Try.DFiles_w (d room bs bk : Nat) (pv : Value) (F : List FileE) (w : World) (hb : w.heap[d]? = some (.cells (dkV room bs (.map (some bk)) pv).toArray 112 (0, 0))) (hF : FilesOk w 5 bs F) (hlen : F.length ≤ 1000000) :
    Tri Try.prog 28 [.pointer (some ⟨d, 0, none⟩)] w [] (fun v bx hp => ∃ a c, v = sv a F.length c ∧ bx = [] ∧ hp = [Seg.row a 56 2 F.length c (fl (ordN (nbs F)))]) := by
  refine Tri.enter (bx := []) (hp := []) Try.func28 rfl (by kernel_rfl) rfl (Own.nil w) ?_
  have rd : ∀ {bx : Bx} {hp : List Seg}, RdW ⟨w, kys [] []⟩ bx hp d 1 [.map (some bs)] := fun {_ _} => RdW.blkB1 (by simp [kys]) hb rfl
  refine At.run 100 true [false] [hR [.map (some bs)]] rfl (by (repeat' apply And.intro) <;> first | exact rd | exact True.intro | omega | rfl | (simp only [inK]; omega) | exact decide_eq_true (by omega) | exact decide_eq_false (by omega) | (simp; done) | (simp; omega) | (simp [Value.oneCell']; done) | exact i64s_one _ | exact AggOk.mk (by kernel_rfl) (by kernel_rfl)) ?_
  refine At.step [] rfl rfl rfl rfl rfl trivial (OpOk.call rfl (fun w' hw' => Try.list_w bs F w' (hF.ext hw'.ext (by simp [kys])) hlen) ?_)
  rintro v bx' hp' ⟨a, c, rfl, rfl, rfl⟩
  refine At.run 100 true [] [] rfl (by (repeat' apply And.intro) <;> first | exact True.intro | omega | (simp only [inK]; omega) | (simp; done) | (simp; omega) | exact decide_eq_true (by omega) | exact decide_eq_false (by omega) | rfl | (simp [Value.oneCell']; done) | exact i64s_one _ | exact AggOk.mk (by kernel_rfl) (by kernel_rfl)) ?_
  exact At.ret [] rfl Try.func28 rfl trivial ⟨a, c, rfl, rfl, rfl⟩

theorem Try.DKept_w (d room bs bk : Nat) (pv : Value) (F : List FileE) (w : World) (hb : w.heap[d]? = some (.cells (dkV room bs (.map (some bk)) pv).toArray 112 (0, 0))) (hF : FilesOk w 5 bk F) (hlen : F.length ≤ 1000000) :
    Tri Try.prog 29 [.pointer (some ⟨d, 0, none⟩)] w [] (fun v bx hp => ∃ a c, v = sv a F.length c ∧ bx = [] ∧ hp = [Seg.row a 56 2 F.length c (fl (ordN (nbs F)))]) := by
  refine Tri.enter (bx := []) (hp := []) Try.func29 rfl (by kernel_rfl) rfl (Own.nil w) ?_
  have rd : ∀ {bx : Bx} {hp : List Seg}, RdW ⟨w, kys [] []⟩ bx hp d 2 [.map (some bk)] := fun {_ _} => RdW.blkB1 (by simp [kys]) hb rfl
  refine At.run 100 true [false] [hR [.map (some bk)]] rfl (by (repeat' apply And.intro) <;> first | exact rd | exact True.intro | omega | rfl | (simp only [inK]; omega) | exact decide_eq_true (by omega) | exact decide_eq_false (by omega) | (simp; done) | (simp; omega) | (simp [Value.oneCell']; done) | exact i64s_one _ | exact AggOk.mk (by kernel_rfl) (by kernel_rfl)) ?_
  refine At.step [] rfl rfl rfl rfl rfl trivial (OpOk.call rfl (fun w' hw' => Try.list_w bk F w' (hF.ext hw'.ext (by simp [kys])) hlen) ?_)
  rintro v bx' hp' ⟨a, c, rfl, rfl, rfl⟩
  refine At.run 100 true [] [] rfl (by (repeat' apply And.intro) <;> first | exact True.intro | omega | (simp only [inK]; omega) | (simp; done) | (simp; omega) | exact decide_eq_true (by omega) | exact decide_eq_false (by omega) | rfl | (simp [Value.oneCell']; done) | exact i64s_one _ | exact AggOk.mk (by kernel_rfl) (by kernel_rfl)) ?_
  exact At.ret [] rfl Try.func29 rfl trivial ⟨a, c, rfl, rfl, rfl⟩

end Go.Proofs

/-
  Walks of layer 14's statements: any book patched by any changes.
-/
import Derived.Test.YtfpoclhenokhhaaDoorM24
import Derived.Test.YtfpoclhenokhhaaDoorM9
import Derived.Test.YtfpoclhenokhhaaDoorM26
import Derived.Test.YtfpoclhenokhhaaDoorM27
/-
  Walks of layer 14's statements: any book patched by any changes.
-/
namespace Go.Proofs
open Go Go.Eng
set_option maxRecDepth 100000
set_option maxHeartbeats 4000000
attribute [local irreducible] Tri

theorem At.rowCap {C : Ctx} {x : Eng.Loc} {df : List Deferred} {env : Env} {bx : Bx} {hp : List Seg} {S : Base} {a : Option Nat} {e sz n cap : Nat} {xs : List Value} (j : Nat) (hj : nth hp j = some (Seg.row a e sz n cap xs)) (hk : n ≤ cap → At C x df env bx hp S) : At C x df env bx hp S :=
  fun w hw => hk ((show rowOk w a e sz n cap xs from hw.hp _ (nth_mem hj)).le) w hw
theorem kys_packA (bx : Bx) (ex hp : List Seg) : kys bx (Seg.pack [] ex :: hp) = kys bx (ex ++ hp) := by simp [kys, Seg.pack]
theorem WOk.packA {S : Base} {bx : Bx} {ex hp : List Seg} {w : World} (h : WOk S bx (ex ++ hp) w) : WOk S bx (Seg.pack [] ex :: hp) w := by
  refine ⟨h.ext, by rw [kys_packA]; exact h.nd, by rw [kys_packA]; exact h.lt, by rw [kys_packA]; exact h.own, h.bx, fun t ht => ?_⟩
  rcases List.mem_cons.1 ht with rfl | ht
  · exact ⟨by simp, fun t ht => h.hp t (List.mem_append_left _ ht)⟩
  · exact h.hp t (List.mem_append_right _ ht)
theorem rows_small {b : Bk} (hg : greatB b = false) : (rowsB b).length ≤ 351 := by
  obtain ⟨h1, h2, h3, h4⟩ := great_lens hg
  simp only [rowsB, List.length_append, List.length_map, List.length_singleton]
  omega
def zBk : Bk := ⟨[], [], [], [], 0⟩
def zBkA : BkA := ⟨none, none, none, none, 0, 0, 0, 0⟩
theorem zBk_in : BkIn zBk := ⟨fun _ h => (nomatch h), fun _ h => (nomatch h), fun _ h => (nomatch h), fun _ h => (nomatch h), Nat.zero_le _, Nat.zero_le _, Nat.zero_le _, Nat.zero_le _, (by simp [zBk, inK])⟩
theorem zBk_ok (w : World) : BkOk w zBk zBkA := ⟨.inl rfl, .inl rfl, .inl rfl, .inl rfl⟩
theorem sameB_self (c : Bk) : sameB c c = true := by simp [sameB]

/-- What a patch of the program's says. -/
structure PInfo (a : Bk) (l : List ChP) (pb : Bk) (pA : BkA) (n : Int) (hp : List Seg) : Prop where
  inn : BkIn pb
  ok : ∀ w', (∀ s, s ∈ hp → s.ok w') → BkOk w' pb pA
  says : (mayB a = false ∧ n = 1 ∧ pb = zBk) ∨ (mayB a = true ∧ rightB l = false ∧ n = 3 ∧ pb = zBk) ∨ (mayB a = true ∧ rightB l = true ∧ chkP (valB a) l = none ∧ n = 7 ∧ pb = zBk) ∨
    (∃ f b, mayB a = true ∧ rightB l = true ∧ chkP (valB a) l = some f ∧ IsBk f b ∧ ((mayB b = false ∧ n = 1 ∧ pb = zBk) ∨ (mayB b = true ∧ n = 0 ∧ pb = b)))
theorem Tryd.patchR_info {a : Bk} {l : List ChP} {v : Value} {bx : Bx} {hp : List Seg} (h : Tryd.PatchR a l v bx hp) : bx = [] ∧ ∃ (pb : Bk) (pA : BkA) (n : Int), v = .tuple #[.agg ⟨bkV pb pA⟩, .int .i64 n] ∧ PInfo a l pb pA n hp := by
  obtain ⟨rfl, ⟨h1, rfl, rfl⟩ | ⟨h1, h2, rfl, rfl⟩ | ⟨h1, h2, h3, rfl, rfl⟩ | ⟨f, b, h1, h2, h3, h4, ⟨h5, rfl, rfl⟩ | ⟨h5, q, rfl, rfl⟩⟩⟩ := h
  · exact ⟨rfl, zBk, zBkA, 1, rfl, zBk_in, fun w' _ => zBk_ok w', .inl ⟨h1, rfl, rfl⟩⟩
  · exact ⟨rfl, zBk, zBkA, 3, rfl, zBk_in, fun w' _ => zBk_ok w', .inr (.inl ⟨h1, h2, rfl, rfl⟩)⟩
  · exact ⟨rfl, zBk, zBkA, 7, rfl, zBk_in, fun w' _ => zBk_ok w', .inr (.inr (.inl ⟨h1, h2, h3, rfl, rfl⟩))⟩
  · exact ⟨rfl, zBk, zBkA, 1, rfl, zBk_in, fun w' _ => zBk_ok w', .inr (.inr (.inr ⟨f, b, h1, h2, h3, h4, .inl ⟨h5, rfl, rfl⟩⟩))⟩
  · exact ⟨rfl, b, q.A, 0, rfl, h4.inn, fun w' hs => Tryd.bkHp_ok hs, .inr (.inr (.inr ⟨f, b, h1, h2, h3, h4, .inr ⟨h5, rfl, rfl⟩⟩))⟩
/-- The document's patch answers the same. -/
theorem Tryd.patch_same {a : Bk} {A : BkA} {l : List ChP} {pb : Bk} {pA : BkA} {n : Int} {hpx : List Seg} {m : Nat} (hI : PInfo a l pb pA n hpx) (hi : BkIn a) (hl : BkLe m a) (hn : m + l.length ≤ 1048576) (ha : mayB a = true) (hr : rightB l = true) (hok : ∀ e, e ∈ l → ChgOk e)
    {v : Value} {bx : Bx} {hp : List Seg} (hQ : Tryd.PatchQ a A l v bx hp) : bx = [] ∧ ∃ rA : BkA, v = .tuple #[.agg ⟨bkV pb rA⟩, .int .i64 n] ∧ BkTo hp a A pb rA := by
  have hrp := rightB_iff.1 hr
  have z : ∀ {ex : List Seg}, BkTo ex a A zBk zBkA := fun {_} w' _ _ => zBk_ok w'
  obtain ⟨rfl, ⟨⟨e, he, hne⟩, rfl, rfl⟩ | ⟨hall, hQ⟩⟩ := hQ
  · rcases hI.says with h | h | h | ⟨f, b, -, -, h, -⟩
    · rw [ha] at h; cases h.1
    · rw [hr] at h; cases h.2.1
    · obtain ⟨-, -, -, rfl, rfl⟩ := h
      exact ⟨rfl, zBkA, rfl, z⟩
    · exact (hne ((chkP_some hrp.ris h).1 e he).1).elim
  · rcases hI.says with h | h | h | ⟨f, b, -, -, h, hb, hsay⟩
    · rw [ha] at h; cases h.1
    · rw [hr] at h; cases h.2.1
    · obtain ⟨e, he, hne⟩ := chkP_none hrp.ris h.2.2.1
      exact (hne (hall e he)).elim
    · obtain ⟨p1, p2⟩ := patch_law hi hl hn ha hrp hok h hb
      rcases hQ with ⟨h1, rfl, rfl⟩ | ⟨h1, A', ex, rfl, rfl, hto⟩
      · rw [h1] at p1
        rcases hsay with ⟨-, rfl, rfl⟩ | h2
        · exact ⟨rfl, zBkA, rfl, z⟩
        · rw [h2.1] at p1; cases p1
      · rw [h1] at p1
        rcases hsay with h2 | ⟨h2, rfl, rfl⟩
        · rw [h2.1] at p1; cases p1
        · have e := p2 h2
          rw [e] at hto ⊢
          exact ⟨rfl, A', rfl, fun w' hs h => hto w' (fun s h2 => (hs _ (List.mem_singleton.2 rfl)).2 s h2) h⟩
theorem greatC_lens {L : List ChE} (h : greatC L = false) : L.length ≤ 60 ∧ ∀ e, e ∈ L → e.was.length ≤ 20 ∧ e.is.length ≤ 20 := by
  unfold greatC at h
  rw [Bool.or_eq_false_iff, decide_eq_false_iff_not, List.any_eq_false] at h
  refine ⟨by omega, fun e he => ?_⟩
  have := h.2 e he
  simp only [Bool.or_eq_true, decide_eq_true_eq, not_or] at this
  omega
theorem sub_one {w : World} {g : Nat} {N : List ChE} {d : ChE} {i : Nat} (h : SlOk w (svA (some g)) (N.flatMap chC)) (hd : N[i]? = some d) : SlOk w (some ⟨g, 0 + (i : Int).toNat * 5, none⟩) ([d].flatMap chC) := by
  obtain ⟨b, o, he, hc⟩ := h.get (chC_ne hd)
  have he : (⟨g, 0, none⟩ : Addr) = ⟨b, o, none⟩ := Option.some.inj he
  cases he
  refine .inr ⟨g, _, rfl, fun j u hu => ?_⟩
  rw [List.flatMap_singleton] at hu
  have := hc (i * 5 + j) u (flat_get (f := chC) (sz := 5) (fun _ _ => rfl) hd j u hu)
  rw [← this, Int.toNat_natCast, Nat.zero_add, Nat.zero_add]

set_option maxHeartbeats 1000000 in
theorem Tryd.patches14_w (a : Bk) (A : BkA) (L : List ChE) (la : Option Addr) (lc : Nat) (M : List ChE) (ma : Option Addr) (mc : Nat) (w : World) (hfa : BkFit a) (hoa : BkOk w a A) (hLl : L.length ≤ 9223372036854775807) (hl : SlOk w la (L.flatMap chC)) (hLf : ∀ e, e ∈ L → ChFit w e)
    (hMl : M.length ≤ 9223372036854775807) (hm : SlOk w ma (M.flatMap chC)) (hMf : ∀ e, e ∈ M → ChFit w e) (hW : Tryd.Wid w) :
    Fun Tryd.prog 4 [.agg ⟨bkV a A⟩, .slice la L.length lc, .slice ma M.length mc] w (.bool true) := by
  refine Tri.enter (bx := []) (hp := []) Tryd.func4 rfl (by kernel_rfl) rfl (Own.nil w) ?_
  have hm0 : ∀ k, k ∉ (⟨w, kys [] []⟩ : Base).mods := by simp [kys]
  have hA : ∀ {bx : Bx} {hp : List Seg}, CallOb Tryd.prog ⟨w, kys [] []⟩ bx hp 5 [] (.bool true) := fun {_ _} w' _ => Tryd.alive14_w w'
  have hG : ∀ {bx : Bx} {hp : List Seg}, CallOb Tryd.prog ⟨w, kys [] []⟩ bx hp 6 [.agg ⟨bkV a A⟩] (.bool (greatB a)) := fun {_ _} w' _ => Tryd.great2_w a A w' hfa.l1 hfa.l2 hfa.l3 hfa.l4
  have hGL : ∀ {bx : Bx} {hp : List Seg}, CallOb Tryd.prog ⟨w, kys [] []⟩ bx hp 13 [.slice la L.length lc] (.bool (greatC L)) := fun {_ _} w' hw' => Tryd.great14_w L la lc w' hLl (hl.ext hw'.ext (by simp [kys])) fun e he => ⟨(hLf e he).wl, (hLf e he).il⟩
  have hGM : ∀ {bx : Bx} {hp : List Seg}, CallOb Tryd.prog ⟨w, kys [] []⟩ bx hp 13 [.slice ma M.length mc] (.bool (greatC M)) := fun {_ _} w' hw' => Tryd.great14_w M ma mc w' hMl (hm.ext hw'.ext (by simp [kys])) fun e he => ⟨(hMf e he).wl, (hMf e he).il⟩
  refine At.run 100 true [] [] rfl trivial ?_
  refine At.step [] rfl rfl rfl rfl rfl trivial (OpOk.box rfl rfl rfl fun bq hbq => ?_)
  cases ga : greatB a with
  | true =>
    rw [ga] at hG
    refine At.run 100 true [false, true, true, true] [hC (.bool true), hB 0, hC (.bool true)] rfl (by (repeat' apply And.intro) <;> first | exact hA | exact hG | exact True.intro | omega | rfl | (simp only [inK]; omega) | exact decide_eq_true (by omega) | exact decide_eq_false (by omega) | (simp; done) | (simp; omega) | (simp [Value.oneCell']; done) | exact i64s_one _ | exact AggOk.mk (by kernel_rfl) (by kernel_rfl)) ?_
    exact At.retK [] [] [] rfl rfl Tryd.func4 rfl trivial ⟨rfl, rfl, rfl⟩
  | false =>
  rw [ga] at hG
  cases gl : greatC L with
  | true =>
    rw [gl] at hGL
    refine At.run 100 true [false, false, true, true] [hC (.bool true), hB 0, hC (.bool false), hC (.bool true)] rfl (by (repeat' apply And.intro) <;> first | exact hA | exact hG | exact hGL | exact True.intro | omega | rfl | (simp only [inK]; omega) | exact decide_eq_true (by omega) | exact decide_eq_false (by omega) | (simp; done) | (simp; omega) | (simp [Value.oneCell']; done) | exact i64s_one _ | exact AggOk.mk (by kernel_rfl) (by kernel_rfl)) ?_
    exact At.retK [] [] [] rfl rfl Tryd.func4 rfl trivial ⟨rfl, rfl, rfl⟩
  | false =>
  rw [gl] at hGL
  cases gm : greatC M with
  | true =>
    rw [gm] at hGM
    refine At.run 100 true [false, false, false, true] [hC (.bool true), hB 0, hC (.bool false), hC (.bool false), hC (.bool true)] rfl (by (repeat' apply And.intro) <;> first | exact hA | exact hG | exact hGL | exact hGM | exact True.intro | omega | rfl | (simp only [inK]; omega) | exact decide_eq_true (by omega) | exact decide_eq_false (by omega) | (simp; done) | (simp; omega) | (simp [Value.oneCell']; done) | exact i64s_one _ | exact AggOk.mk (by kernel_rfl) (by kernel_rfl)) ?_
    exact At.retK [] [] [] rfl rfl Tryd.func4 rfl trivial ⟨rfl, rfl, rfl⟩
  | false =>
  rw [gm] at hGM
  have hia := hfa.in ga
  have hsa := rows_small ga
  obtain ⟨l1, l2, l3, l4⟩ := great_lens ga
  have hLe : BkLe 200 a := ⟨by omega, by omega, by omega, by omega⟩
  obtain ⟨hL60, hL20⟩ := greatC_lens gl
  obtain ⟨hM60, hM20⟩ := greatC_lens gm
  have hLs : ChL w L := ChFit.chl hLf hL20
  have hMs : ChL w M := ChFit.chl hMf hM20
  have hLI : ChI L := ChFit.chi hLf
  refine At.run 100 true [false, false, false, false] [hC (.bool true), hB 0, hC (.bool false), hC (.bool false), hC (.bool false)] rfl (by (repeat' apply And.intro) <;> first | exact hA | exact hG | exact hGL | exact hGM | exact True.intro | omega | rfl | (simp only [inK]; omega) | exact decide_eq_true (by omega) | exact decide_eq_false (by omega) | (simp; done) | (simp; omega) | (simp [Value.oneCell']; done) | exact i64s_one _ | exact AggOk.mk (by kernel_rfl) (by kernel_rfl)) ?_
  have hOf : ∀ {bx : Bx} {hp : List Seg} {w' : World}, WOk ⟨w, kys [] []⟩ bx hp w' → Tri Tryd.prog 14 [.slice la L.length lc] w' [] (fun v bx hp => bx = [] ∧ ∃ (g : Option Nat) (c : Nat), v = sv g L.length c ∧ hp = [Seg.row g 67 5 L.length c (L.flatMap chC)]) := fun {_ _ w'} hw' => Tryd.Of_w L la lc w' (by omega) (hl.ext hw'.ext (by simp [kys]))
  have hPa : ∀ {bx : Bx} {hp : List Seg} {w' : World}, WOk ⟨w, kys [] []⟩ bx hp w' → ∀ (g : Option Nat) (c : Nat), Seg.row g 67 5 L.length c (L.flatMap chC) ∈ hp → Tri Tryd.prog 9 [.agg ⟨bkV a A⟩, sv g L.length c] w' [] (fun v bx hp => bx = [] ∧ ∃ (pb : Bk) (pA : BkA) (n : Int), v = .tuple #[.agg ⟨bkV pb pA⟩, .int .i64 n] ∧ PInfo a (L.map chP) pb pA n hp) := fun {_ _ w'} hw' g c h0 =>
    (Tryd.Patch_w a A L (svA g) c w' hia (hoa.ext hw'.ext (by simp [kys])) (SlOk.row (hw'.hp _ h0)) (hLs.ext hw'.ext (by simp [kys])) hLI (by omega) (Tryd.Wid.ext hW hw'.ext (by simp [kys]))).mono fun v bx hp hR => Tryd.patchR_info hR
  refine At.draw 10 rfl rfl rfl rfl ?_
  refine AtD.pures (ob := True) true (by kernel_rfl) [1] (fuel := 9) (by kernel_rfl) rfl (by (repeat' apply And.intro) <;> first | exact True.intro | omega | (simp only [inK]; omega) | (simp; done) | (simp; omega) | exact decide_eq_true (by omega) | exact decide_eq_false (by omega) | rfl | (simp [Value.oneCell']; done) | exact i64s_one _ | exact AggOk.mk (by kernel_rfl) (by kernel_rfl)) ?_
  refine AtD.cutS (ι := (x : (Bk × BkA × Int × List Seg) × Option Nat × Nat × Nat) ×' PInfo a (L.map chP) x.1.1 x.1.2.1 x.1.2.2.1 x.1.2.2.2) 2 #[true, true, true, true, true, true, true, true, false, false]
    (fun x => [(31, .agg ⟨bkV x.1.1.1 x.1.1.2.1⟩), (32, .int .i64 x.1.1.2.2.1), (7, .pointer (some ⟨x.1.2.2.2, 0, none⟩)), (3, .pointer (some ⟨bq, 0, none⟩)), (1, .slice la L.length lc), (2, .slice ma M.length mc)])
    (fun x => [(x.1.2.2.2, 27, [.slice none 0 0, .slice none 0 0, .slice none 0 0, .slice none 0 0, .int .i64 0]), (bq, 27, bkV a A)])
    (fun x => x.1.1.2.2.2 ++ [Seg.row x.1.2.1 67 5 L.length x.1.2.2.1 (L.flatMap chC)]) ?_ (fun hd => ?_)
  · rintro ⟨⟨⟨pb, pA, n, hpx⟩, g0, c0, b7⟩, hI⟩
    have hI : PInfo a (L.map chP) pb pA n hpx := hI
    dsimp only
    refine AtD.fork1 8 (by kernel_rfl) (StepD.by0 [] rfl rfl rfl trivial (OpOk.one true [] [hB 0] rfl (by (repeat' apply And.intro) <;> first | exact bkV_cells _ _ | exact True.intro | omega | rfl | (simp only [inK]; omega) | exact decide_eq_true (by omega) | exact decide_eq_false (by omega) | (simp; done) | (simp; omega) | (simp [Value.oneCell']; done) | exact i64s_one _ | exact AggOk.mk (by kernel_rfl) (by kernel_rfl)) ?_))
    refine AtD.pures (ob := True) true (by kernel_rfl) [9] (fuel := 0) (by kernel_rfl) rfl (by (repeat' apply And.intro) <;> first | exact True.intro | omega | (simp only [inK]; omega) | (simp; done) | (simp; omega) | exact decide_eq_true (by omega) | exact decide_eq_false (by omega) | rfl | (simp [Value.oneCell']; done) | exact i64s_one _ | exact AggOk.mk (by kernel_rfl) (by kernel_rfl)) ?_
    refine AtD.done (by kernel_rfl) ?_
    refine At.reshape (fun w' hw' => WOk.packA hw') ?_
    refine At.keep [true, true] [true] rfl ?_
    refine At.run 100 true [] [] rfl (by (repeat' apply And.intro) <;> first | exact True.intro | omega | (simp only [inK]; omega) | (simp; done) | (simp; omega) | exact decide_eq_true (by omega) | exact decide_eq_false (by omega) | rfl | (simp [Value.oneCell']; done) | exact i64s_one _ | exact AggOk.mk (by kernel_rfl) (by kernel_rfl)) ?_
    refine At.step [] rfl rfl rfl rfl rfl trivial (OpOk.call rfl (fun w' hw' => hOf hw') ?_)
    rintro v bx' hp' ⟨rfl, g1, c1, rfl, rfl⟩
    refine At.step [] rfl rfl rfl rfl rfl trivial (OpOk.call rfl (fun w' hw' => Tryd.Turn_w L (svA g1) c1 w' (by omega) (SlOk.row (hw'.hp (Seg.row g1 67 5 L.length c1 (L.flatMap chC)) (by simp))) (hLs.ext hw'.ext (by simp [kys])) (fun e he => by have := hL20 e he; omega)) ?_)
    rintro v bx' hp' ⟨rfl, N, g2, c2, ex2, hN, hNA, rfl, rfl⟩
    have hNl : N.length = L.length := by have := congrArg List.length hN; simpa using this
    refine At.step [] rfl rfl rfl rfl rfl trivial (OpOk.call rfl (fun w' hw' => Tryd.Plain_w N (svA g2) c2 w' (by omega) (SlOk.row (hw'.hp (Seg.row g2 67 5 N.length c2 (N.flatMap chC)) (by simp)))) ?_)
    rintro v bx' hp' ⟨rfl, g3, c3, rfl, rfl⟩
    refine At.run 100 true [] [] rfl (by (repeat' apply And.intro) <;> first | exact True.intro | omega | (simp only [inK]; omega) | (simp; done) | (simp; omega) | exact decide_eq_true (by omega) | exact decide_eq_false (by omega) | rfl | (simp [Value.oneCell']; done) | exact i64s_one _ | exact AggOk.mk (by kernel_rfl) (by kernel_rfl)) ?_
    refine At.keep [true, true] [true, false, true, false, true] rfl ?_
    refine At.step [] rfl rfl rfl rfl rfl trivial (OpOk.call rfl (fun w' hw' => hOf hw') ?_)
    rintro v bx' hp' ⟨rfl, g4, c4, rfl, rfl⟩
    refine At.run 100 true [] [] rfl (by (repeat' apply And.intro) <;> first | exact True.intro | omega | (simp only [inK]; omega) | (simp; done) | (simp; omega) | exact decide_eq_true (by omega) | exact decide_eq_false (by omega) | rfl | (simp [Value.oneCell']; done) | exact i64s_one _ | exact AggOk.mk (by kernel_rfl) (by kernel_rfl)) ?_
    refine At.step [] rfl rfl rfl rfl rfl trivial (OpOk.call rfl (fun w' hw' => Tryd.Of_w M ma mc w' (by omega) (hm.ext hw'.ext (by simp [kys]))) ?_)
    rintro v bx' hp' ⟨rfl, g5, c5, rfl, rfl⟩
    have hS1 : CallOb Tryd.prog ⟨w, kys [] []⟩ [(b7, 27, bkV pb pA), (bq, 27, bkV a A)] [Seg.row g5 67 5 M.length c5 (M.flatMap chC), Seg.row g4 67 5 L.length c4 (L.flatMap chC), Seg.row g3 46 5 N.length c3 (N.flatMap chC), Seg.pack [] ex2, Seg.pack [] hpx]
        12 [sv g4 L.length c4, sv g5 M.length c5] (.bool (decide (L.map chP = M.map chP))) := fun w' hw' =>
      Tryd.same14_w L M (svA g4) (svA g5) c4 c5 w' (by omega) (by omega) (SlOk.row (hw'.hp (Seg.row g4 67 5 L.length c4 (L.flatMap chC)) (by simp))) (SlOk.row (hw'.hp (Seg.row g5 67 5 M.length c5 (M.flatMap chC)) (by simp))) (hLs.ext hw'.ext (by simp [kys])) (hMs.ext hw'.ext (by simp [kys]))
    have hS2 : ∀ {bx : Bx} {hp : List Seg}, CallOb Tryd.prog ⟨w, kys [] []⟩ bx hp 16 [.slice la L.length lc, .slice ma M.length mc] (.bool (decide (L.map chP = M.map chP))) := fun {_ _} w' hw' =>
      Tryd.rSame14_w L M la ma lc mc w' (by omega) (by omega) (hl.ext hw'.ext (by simp [kys])) (hm.ext hw'.ext (by simp [kys])) (hLs.ext hw'.ext (by simp [kys])) (hMs.ext hw'.ext (by simp [kys]))
    refine At.run 100 true [false, false] [hC (.bool (decide (L.map chP = M.map chP))), hC (.bool (decide (L.map chP = M.map chP)))] rfl (by (repeat' apply And.intro) <;> first | exact hS1 | exact hS2 | (simp [hNl]; done) | exact True.intro | omega | rfl | (simp only [inK]; omega) | exact decide_eq_true (by omega) | exact decide_eq_false (by omega) | (simp; done) | (simp; omega) | (simp [Value.oneCell']; done) | exact i64s_one _ | exact AggOk.mk (by kernel_rfl) (by kernel_rfl)) ?_
    refine At.keep [true, true] [false, false, true, true, true] rfl ?_
    have hMa : ∀ {bx : Bx} {hp : List Seg}, CallOb Tryd.prog ⟨w, kys [] []⟩ bx hp 7 [.agg ⟨bkV a A⟩] (.bool (mayB a)) := fun {_ _} w' hw' => Tryd.rMay_w a A w' hia (hoa.ext hw'.ext (by simp [kys]))
    have hRm : ∀ {bx : Bx} {hp : List Seg}, CallOb Tryd.prog ⟨w, kys [] []⟩ bx hp 17 [.slice la L.length lc] (.bool (rightB (L.map chP))) := fun {_ _} w' hw' => Tryd.rMay14_w L la lc w' (by omega) (hl.ext hw'.ext (by simp [kys])) (hLs.ext hw'.ext (by simp [kys]))
    refine At.loop (n := L.length) (env0 := [(1, .slice la L.length lc), (3, .pointer (some ⟨bq, 0, none⟩)), (7, .pointer (some ⟨b7, 0, none⟩)), (8, .int .i64 n), (9, sv g3 N.length c3), (10, .int .i64 0)]) (fun m env bx hp => ∃ i : Nat, m = L.length - i ∧ i ≤ L.length ∧
      env = [(1, .slice la L.length lc), (3, .pointer (some ⟨bq, 0, none⟩)), (7, .pointer (some ⟨b7, 0, none⟩)), (8, .int .i64 n), (9, sv g3 N.length c3), (10, .int .i64 i)] ∧ bx = [(b7, 27, bkV pb pA), (bq, 27, bkV a A)] ∧ hp = [Seg.row g3 46 5 N.length c3 (N.flatMap chC), Seg.pack [] ex2, Seg.pack [] hpx]) rfl
      ⟨0, by simp, by omega, rfl, rfl, rfl⟩ ⟨rfl, rfl, rfl, rfl, rfl, rfl, trivial⟩ ?_
    rintro m env bx hp ⟨i, rfl, hi2, rfl, rfl, rfl⟩ ih
    by_cases hlt : i < L.length
    · obtain ⟨e, hx⟩ : ∃ e, L[i]? = some e := ⟨_, List.getElem?_eq_getElem hlt⟩
      obtain ⟨d, hd2⟩ : ∃ d, N[i]? = some d := ⟨_, List.getElem?_eq_getElem (by omega)⟩
      have hmem := List.mem_of_getElem? hx
      obtain ⟨gl2, o, rfl, hc⟩ := hl.get (chC_ne hx)
      have rT : ∀ {bx : Bx} {hp : List Seg} (f : Nat) (v : Value), (chC e)[f]? = some v → RdW ⟨w, kys [] []⟩ bx hp gl2 (o + (i : Int).toNat * 5 + f) [v] := fun {_ _} => RdW.ch hc (hm0 _) hx
      obtain ⟨x1, x2, x3, x4⟩ := hLs e hmem
      have hde : chP d = turnP (chP e) := by
        have h1 : (N.map chP)[i]? = some (chP d) := by rw [List.getElem?_map, hd2]; rfl
        rw [hN, List.getElem?_map, List.getElem?_map, hx] at h1
        exact (Option.some.inj h1).symm
      let e' : ChE := ⟨e.k, e.is, e.ia, e.ic, e.was, e.wa, e.wc⟩
      refine At.rowSome 0 rfl (by omega) (fun g6 hg6 => ?_)
      subst hg6
      refine At.rowCap 0 rfl (fun hcap => ?_)
      refine At.run 100 true [true] [] rfl (by (repeat' apply And.intro) <;> first | exact True.intro | omega | (simp only [inK]; omega) | (simp; done) | (simp; omega) | exact decide_eq_true (by omega) | exact decide_eq_false (by omega) | rfl | (simp [Value.oneCell']; done) | exact i64s_one _ | exact AggOk.mk (by kernel_rfl) (by kernel_rfl)) ?_
      refine At.draw 28 rfl rfl rfl rfl ?_
      refine AtH.reads true [0, 1, 2, 3, 4, 5, 6, 7, 8, 9, 10, 11, 12, 13, 14, 15, 16, 17, 18, 19, 20, 21, 22, 23, 24, 25] [hR [.int .i64 e.k.1], hR [.int .i64 e.k.2.1], hR [.int .i64 e.k.2.2], hR [.slice e.ia e.is.length e.ic], hR [.slice e.wa e.was.length e.wc]] (by kernel_rfl) (by kernel_rfl) (by kernel_rfl) rfl rfl (by (repeat' apply And.intro) <;> first | exact rT 0 _ rfl | exact rT 1 _ rfl | exact rT 2 _ rfl | exact rT 3 _ rfl | exact rT 4 _ rfl | exact True.intro | omega | rfl | (simp only [inK]; omega) | exact decide_eq_true (by omega) | exact decide_eq_false (by omega) | (simp; done) | (simp; omega) | (simp [Value.oneCell']; done) | exact i64s_one _ | exact AggOk.mk (by kernel_rfl) (by kernel_rfl)) rfl rfl (fuel := 2) ?_
      refine AtH.fork1 26 (by kernel_rfl) rfl rfl rfl (OpOk.alloc (cs := [.int .i64 0, .int .i64 0, .int .i64 0, .slice none 0 0, .slice none 0 0]) rfl (by kernel_rfl) fun b11 hb11 => ⟨fun w hw => hw.dropB, ?_⟩)
      refine AtH.fork1 27 (by kernel_rfl) rfl rfl rfl (OpOk.one true [] [hB 0] rfl (by (repeat' apply And.intro) <;> first | exact chC_one e' | exact True.intro | omega | rfl | (simp only [inK]; omega) | exact decide_eq_true (by omega) | exact decide_eq_false (by omega) | (simp; done) | (simp; omega) | (simp [Value.oneCell']; done) | exact i64s_one _ | exact AggOk.mk (by kernel_rfl) (by kernel_rfl)) ⟨fun w hw => hw.dropB, ?_⟩)
      refine AtH.done (by kernel_rfl) ?_
      refine At.run 100 true [] [] rfl (by (repeat' apply And.intro) <;> first | exact True.intro | omega | (simp only [inK]; omega) | (simp; done) | (simp; omega) | exact decide_eq_true (by omega) | exact decide_eq_false (by omega) | rfl | (simp [Value.oneCell']; done) | exact i64s_one _ | exact AggOk.mk (by kernel_rfl) (by kernel_rfl)) ?_
      refine At.draw 9 rfl rfl rfl rfl ?_
      refine AtD.pures (ob := True) true (by kernel_rfl) [0, 1, 2, 3, 4] (fuel := 4) (by kernel_rfl) rfl (by (repeat' apply And.intro) <;> first | exact True.intro | omega | (simp only [inK]; omega) | (simp; done) | (simp; omega) | exact decide_eq_true (by omega) | exact decide_eq_false (by omega) | rfl | (simp [Value.oneCell']; done) | exact i64s_one _ | exact AggOk.mk (by kernel_rfl) (by kernel_rfl)) ?_
      refine AtD.fork1 5 (by kernel_rfl) (StepD.by [] rfl rfl rfl rfl trivial (OpOk.one true [] [hB 0] rfl (by (repeat' apply And.intro) <;> first | exact True.intro | omega | (simp only [inK]; omega) | (simp; done) | (simp; omega) | exact decide_eq_true (by omega) | exact decide_eq_false (by omega) | rfl | (simp [Value.oneCell']; done) | exact i64s_one _ | exact AggOk.mk (by kernel_rfl) (by kernel_rfl)) ?_))
      refine AtD.fork1 6 (by kernel_rfl) (StepD.by [] rfl rfl rfl rfl trivial (OpOk.buildSlice rfl rfl rfl rfl rfl rfl rfl (fun bs hbs => ?_)))
      have hSm : CallOb Tryd.prog ⟨w, kys [] []⟩ [(bs, 46, chC e'), (b11, 46, chC e'), (b7, 27, bkV pb pA), (bq, 27, bkV a A)] [Seg.row (some g6) 46 5 N.length c3 (N.flatMap chC), Seg.pack [] ex2, Seg.pack [] hpx]
          16 [.slice (some ⟨g6, 0 + (i : Int).toNat * 5, none⟩) (((i : Int) + 1).toNat - (i : Int).toNat) (c3 - (i : Int).toNat), sv (some bs) 1 1] (.bool true) := fun w' hw' => by
        have e1 : ((i : Int) + 1).toNat - (i : Int).toNat = 1 := by omega
        rw [e1]
        have := Tryd.rSame14_w [d] [e'] (some ⟨g6, 0 + (i : Int).toNat * 5, none⟩) (svA (some bs)) (c3 - (i : Int).toNat) 1 w' (by simp) (by simp) (sub_one (SlOk.row (hw'.hp (Seg.row (some g6) 46 5 N.length c3 (N.flatMap chC)) (by simp))) hd2) (by rw [List.flatMap_singleton]; exact SlOk.blk (hw'.bx (bs, 46, chC e') (by simp)))
          (fun z hz => by rw [List.mem_singleton] at hz; subst hz; exact hNA w' (hw'.hp (Seg.pack [] ex2) (by simp)).2 z (List.mem_of_getElem? hd2)) (fun z hz => by rw [List.mem_singleton] at hz; subst hz; exact ⟨x2.ext hw'.ext (by simp [kys]), x1.ext hw'.ext (by simp [kys]), x4, x3⟩)
        rw [decide_eq_true (show [d].map chP = [e'].map chP by rw [List.map_singleton, List.map_singleton, hde]; rfl)] at this
        exact this
      refine AtD.fork1 7 (by kernel_rfl) (StepD.by [] rfl rfl rfl rfl trivial (OpOk.one true [] [hC (.bool true)] rfl (by (repeat' apply And.intro) <;> first | exact hSm | exact True.intro | omega | rfl | (simp only [inK]; omega) | exact decide_eq_true (by omega) | exact decide_eq_false (by omega) | (simp; done) | (simp; omega) | (simp [Value.oneCell']; done) | exact i64s_one _ | exact AggOk.mk (by kernel_rfl) (by kernel_rfl)) ?_))
      refine AtD.pures (ob := True) true (by kernel_rfl) [8] (fuel := 0) (by kernel_rfl) rfl (by (repeat' apply And.intro) <;> first | exact True.intro | omega | (simp only [inK]; omega) | (simp; done) | (simp; omega) | exact decide_eq_true (by omega) | exact decide_eq_false (by omega) | rfl | (simp [Value.oneCell']; done) | exact i64s_one _ | exact AggOk.mk (by kernel_rfl) (by kernel_rfl)) ?_
      refine AtD.done (by kernel_rfl) ?_
      refine At.run 100 true [false] [] rfl (by (repeat' apply And.intro) <;> first | exact True.intro | omega | (simp only [inK]; omega) | (simp; done) | (simp; omega) | exact decide_eq_true (by omega) | exact decide_eq_false (by omega) | rfl | (simp [Value.oneCell']; done) | exact i64s_one _ | exact AggOk.mk (by kernel_rfl) (by kernel_rfl)) ?_
      refine At.keep [false, false, true, true] [true, true, true] rfl ?_
      exact At.weak (ih _ _ _ _ (by omega) ⟨i + 1, rfl, by omega, rfl, rfl, rfl⟩) ⟨rfl, rfl, rfl, rfl, rfl, some_int_eq (by omega), trivial⟩
    · clear ih
      have hpok : ∀ {bx : Bx} {hp : List Seg} {w' : World}, WOk ⟨w, kys [] []⟩ bx hp w' → Seg.pack [] hpx ∈ hp → BkOk w' pb pA := fun {_ _ w'} hw' hm => hI.ok w' fun s hs => (hw'.hp _ hm).2 s hs
      cases ha : mayB a with
      | false =>
        rw [ha] at hMa
        obtain ⟨rfl, rfl⟩ : n = 1 ∧ pb = zBk := by
          rcases hI.says with h | h | h | ⟨f, b, h, -⟩
          · exact h.2
          · rw [ha] at h; cases h.1
          · rw [ha] at h; cases h.1
          · rw [ha] at h; cases h
        have hZ : ∀ {bx : Bx}, CallOb Tryd.prog ⟨w, kys [] []⟩ bx [Seg.row g3 46 5 N.length c3 (N.flatMap chC), Seg.pack [] ex2, Seg.pack [] hpx] 11 [.agg ⟨bkV zBk pA⟩, .agg ⟨bkV zBk zBkA⟩] (.bool true) := fun {_} w' hw' => by
          have := Tryd.rSame_w zBk zBk pA zBkA w' zBk_in zBk_in (hpok hw' (by simp)) (zBk_ok w')
          rw [sameB_self] at this; exact this
        refine At.run 100 true [false, true, true] [hB 1, hC (.bool false), hB 0, hC (.bool true)] rfl (by (repeat' apply And.intro) <;> first | exact hMa | exact hZ | exact True.intro | omega | rfl | (simp only [inK]; omega) | exact decide_eq_true (by omega) | exact decide_eq_false (by omega) | (simp; done) | (simp; omega) | (simp [Value.oneCell']; done) | exact i64s_one _ | exact AggOk.mk (by kernel_rfl) (by kernel_rfl)) ?_
        exact At.retK [] [] [] rfl rfl Tryd.func4 rfl trivial ⟨rfl, rfl, rfl⟩
      | true =>
      rw [ha] at hMa
      cases hr : rightB (L.map chP) with
      | false =>
        rw [hr] at hRm
        obtain ⟨rfl, rfl⟩ : n = 3 ∧ pb = zBk := by
          rcases hI.says with h | h | h | ⟨f, b, -, h, -⟩
          · rw [ha] at h; cases h.1
          · exact h.2.2
          · rw [hr] at h; cases h.2.1
          · rw [hr] at h; cases h
        have hZ : ∀ {bx : Bx}, CallOb Tryd.prog ⟨w, kys [] []⟩ bx [Seg.row g3 46 5 N.length c3 (N.flatMap chC), Seg.pack [] ex2, Seg.pack [] hpx] 11 [.agg ⟨bkV zBk pA⟩, .agg ⟨bkV zBk zBkA⟩] (.bool true) := fun {_} w' hw' => by
          have := Tryd.rSame_w zBk zBk pA zBkA w' zBk_in zBk_in (hpok hw' (by simp)) (zBk_ok w')
          rw [sameB_self] at this; exact this
        refine At.run 100 true [false, false, true, true] [hB 1, hC (.bool true), hC (.bool false), hB 0, hC (.bool true)] rfl (by (repeat' apply And.intro) <;> first | exact hMa | exact hRm | exact hZ | exact True.intro | omega | rfl | (simp only [inK]; omega) | exact decide_eq_true (by omega) | exact decide_eq_false (by omega) | (simp; done) | (simp; omega) | (simp [Value.oneCell']; done) | exact i64s_one _ | exact AggOk.mk (by kernel_rfl) (by kernel_rfl)) ?_
        exact At.retK [] [] [] rfl rfl Tryd.func4 rfl trivial ⟨rfl, rfl, rfl⟩
      | true =>
      rw [hr] at hRm
      have hrp := rightB_iff.1 hr
      have hok : ∀ e, e ∈ L → ChgOk (chP e) := fun e he => ChgOk.of (hrp.may _ (List.mem_map_of_mem he)) (hLI e he).1 (hLI e he).2
      have hok' : ∀ e, e ∈ L.map chP → ChgOk e := fun e he => by
        obtain ⟨d, hd, rfl⟩ := List.mem_map.1 he
        exact hok d hd
      refine At.run 100 true [false, false, false] [hB 1, hC (.bool true), hC (.bool true), hB 1] rfl (by (repeat' apply And.intro) <;> first | exact hMa | exact hRm | exact True.intro | omega | rfl | (simp only [inK]; omega) | exact decide_eq_true (by omega) | exact decide_eq_false (by omega) | (simp; done) | (simp; omega) | (simp [Value.oneCell']; done) | exact i64s_one _ | exact AggOk.mk (by kernel_rfl) (by kernel_rfl)) ?_
      refine At.step [] rfl rfl rfl rfl rfl trivial (OpOk.call (Q := Tryd.PatchQ a A (L.map chP)) rfl (fun w' hw' => Tryd.rPatch_w a A L la lc 200 w' hia (hoa.ext hw'.ext (by simp [kys])) (hl.ext hw'.ext (by simp [kys])) (hLs.ext hw'.ext (by simp [kys])) hok hLe (by omega)) ?_)
      rintro v bx' hp' hQ
      obtain ⟨rfl, rA, rfl, hto⟩ := Tryd.patch_same hI hia hLe (by rw [List.length_map]; omega) ha hr hok' hQ
      clear hQ
      refine At.reshape (fun w' hw' => WOk.packA hw') ?_
      refine At.run 100 true [] [] rfl (by (repeat' apply And.intro) <;> first | exact True.intro | omega | (simp only [inK]; omega) | (simp; done) | (simp; omega) | exact decide_eq_true (by omega) | exact decide_eq_false (by omega) | rfl | (simp [Value.oneCell']; done) | exact i64s_one _ | exact AggOk.mk (by kernel_rfl) (by kernel_rfl)) ?_
      refine At.step [] rfl rfl rfl rfl rfl trivial (OpOk.alloc (cs := [.slice none 0 0, .slice none 0 0, .slice none 0 0, .slice none 0 0, .int .i64 0]) rfl (by kernel_rfl) fun b12 hb12 => ?_)
      have hFin : ∀ {bx : Bx}, CallOb Tryd.prog ⟨w, kys [] []⟩ bx [Seg.pack [] hp', Seg.row g3 46 5 N.length c3 (N.flatMap chC), Seg.pack [] ex2, Seg.pack [] hpx] 11 [.agg ⟨bkV pb pA⟩, .agg ⟨bkV pb rA⟩] (.bool true) := fun {_} w' hw' => by
        have := Tryd.rSame_w pb pb pA rA w' hI.inn hI.inn (hpok hw' (by simp)) (hto w' (fun s hs => (hw'.hp (Seg.pack [] hp') (by simp)).2 s hs) (hoa.ext hw'.ext (by simp [kys])))
        rw [sameB_self] at this; exact this
      refine At.run 100 true [true] [hB 0, hB 1, hB 0, hC (.bool true)] rfl (by (repeat' apply And.intro) <;> first | exact hFin | exact bkV_cells _ _ | exact True.intro | omega | rfl | (simp only [inK]; omega) | exact decide_eq_true (by omega) | exact decide_eq_false (by omega) | (simp; done) | (simp; omega) | (simp [Value.oneCell']; done) | exact i64s_one _ | exact AggOk.mk (by kernel_rfl) (by kernel_rfl)) ?_
      exact At.retK [] [] [] rfl rfl Tryd.func4 rfl trivial ⟨rfl, rfl, rfl⟩
  refine AtD.cutS (ι := Option Nat × Nat × Nat) 6 #[true, true, true, false, false, false, false, true, false, false]
    (fun x => [(27, .agg ⟨bkV a A⟩), (29, sv x.1 L.length x.2.1), (7, .pointer (some ⟨x.2.2, 0, none⟩)), (3, .pointer (some ⟨bq, 0, none⟩)), (1, .slice la L.length lc), (2, .slice ma M.length mc)])
    (fun x => [(x.2.2, 27, [.slice none 0 0, .slice none 0 0, .slice none 0 0, .slice none 0 0, .int .i64 0]), (bq, 27, bkV a A)])
    (fun x => [Seg.row x.1 67 5 L.length x.2.1 (L.flatMap chC)]) ?_ (fun hh => ?_)
  · rintro ⟨g0, c0, b7⟩
    dsimp only
    refine AtD.fork1 3 (by kernel_rfl) (StepD.by [] rfl rfl rfl rfl trivial (OpOk.call rfl (fun w' hw' => hPa hw' g0 c0 (by simp)) ?_))
    rintro v bx' hp' ⟨rfl, pb, pA, n, rfl, hI⟩
    refine AtD.pures (ob := True) true (by kernel_rfl) [4, 5, 6] (fuel := 2) (by kernel_rfl) rfl (by (repeat' apply And.intro) <;> first | exact True.intro | omega | (simp only [inK]; omega) | (simp; done) | (simp; omega) | exact decide_eq_true (by omega) | exact decide_eq_false (by omega) | rfl | (simp [Value.oneCell']; done) | exact i64s_one _ | exact AggOk.mk (by kernel_rfl) (by kernel_rfl)) ?_
    exact AtD.weak (hd ⟨⟨⟨pb, pA, n, hp'⟩, g0, c0, b7⟩, hI⟩) ⟨rfl, rfl, rfl, rfl, rfl, rfl, trivial⟩
  refine AtD.cutS (ι := Option Nat × Nat) 7 #[true, true, true, false, false, false, false, false, false, false]
    (fun x => [(27, .agg ⟨bkV a A⟩), (29, sv x.1 L.length x.2), (3, .pointer (some ⟨bq, 0, none⟩)), (1, .slice la L.length lc), (2, .slice ma M.length mc)])
    (fun _ => [(bq, 27, bkV a A)])
    (fun x => [Seg.row x.1 67 5 L.length x.2 (L.flatMap chC)]) ?_ (fun he => ?_)
  · rintro ⟨g0, c0⟩
    dsimp only
    refine AtD.fork2 3 7 (by kernel_rfl) ?_ ?_
    · refine StepD.by [] rfl rfl rfl rfl trivial (OpOk.call rfl (fun w' hw' => hPa hw' g0 c0 (by simp)) ?_)
      rintro v bx' hp' ⟨rfl, pb, pA, n, rfl, hI⟩
      refine AtD.pures (ob := True) true (by kernel_rfl) [4, 5, 6] (fuel := 3) (by kernel_rfl) rfl (by (repeat' apply And.intro) <;> first | exact True.intro | omega | (simp only [inK]; omega) | (simp; done) | (simp; omega) | exact decide_eq_true (by omega) | exact decide_eq_false (by omega) | rfl | (simp [Value.oneCell']; done) | exact i64s_one _ | exact AggOk.mk (by kernel_rfl) (by kernel_rfl)) ?_
      refine AtD.fork1 7 (by kernel_rfl) (StepD.by [] rfl rfl rfl rfl trivial (OpOk.alloc (cs := [.slice none 0 0, .slice none 0 0, .slice none 0 0, .slice none 0 0, .int .i64 0]) rfl (by kernel_rfl) fun b7 hb7 => ?_))
      exact AtD.weak (hd ⟨⟨⟨pb, pA, n, hp'⟩, g0, c0, b7⟩, hI⟩) ⟨rfl, rfl, rfl, rfl, rfl, rfl, trivial⟩
    · refine StepD.by [] rfl rfl rfl rfl trivial (OpOk.alloc (cs := [.slice none 0 0, .slice none 0 0, .slice none 0 0, .slice none 0 0, .int .i64 0]) rfl (by kernel_rfl) fun b7 hb7 => ?_)
      exact AtD.weak (hh ⟨g0, c0, b7⟩) ⟨rfl, rfl, rfl, rfl, rfl, rfl, trivial⟩
  refine AtD.fork3 0 2 7 (by kernel_rfl) ?_ ?_ ?_
  · refine StepD.by [] rfl rfl rfl rfl trivial (OpOk.one true [] [hB 0] rfl (by (repeat' apply And.intro) <;> first | exact True.intro | omega | (simp only [inK]; omega) | (simp; done) | (simp; omega) | exact decide_eq_true (by omega) | exact decide_eq_false (by omega) | rfl | (simp [Value.oneCell']; done) | exact i64s_one _ | exact AggOk.mk (by kernel_rfl) (by kernel_rfl)) ?_)
    refine AtD.fork2 2 7 (by kernel_rfl) ?_ ?_
    · refine StepD.by [] rfl rfl rfl rfl trivial (OpOk.call rfl (fun w' hw' => hOf hw') ?_)
      rintro v bx' hp' ⟨rfl, g0, c0, rfl, rfl⟩
      exact AtD.weak (he ⟨g0, c0⟩) ⟨rfl, rfl, rfl, rfl, rfl, trivial⟩
    · refine StepD.by [] rfl rfl rfl rfl trivial (OpOk.alloc (cs := [.slice none 0 0, .slice none 0 0, .slice none 0 0, .slice none 0 0, .int .i64 0]) rfl (by kernel_rfl) fun b7 hb7 => ?_)
      refine AtD.fork1 2 (by kernel_rfl) (StepD.by [] rfl rfl rfl rfl trivial (OpOk.call rfl (fun w' hw' => hOf hw') ?_))
      rintro v bx' hp' ⟨rfl, g0, c0, rfl, rfl⟩
      exact AtD.weak (hh ⟨g0, c0, b7⟩) ⟨rfl, rfl, rfl, rfl, rfl, rfl, trivial⟩
  · refine StepD.by [] rfl rfl rfl rfl trivial (OpOk.call rfl (fun w' hw' => hOf hw') ?_)
    rintro v bx' hp' ⟨rfl, g0, c0, rfl, rfl⟩
    refine AtD.fork2 0 7 (by kernel_rfl) ?_ ?_
    · refine StepD.by [] rfl rfl rfl rfl trivial (OpOk.one true [] [hB 0] rfl (by (repeat' apply And.intro) <;> first | exact True.intro | omega | (simp only [inK]; omega) | (simp; done) | (simp; omega) | exact decide_eq_true (by omega) | exact decide_eq_false (by omega) | rfl | (simp [Value.oneCell']; done) | exact i64s_one _ | exact AggOk.mk (by kernel_rfl) (by kernel_rfl)) ?_)
      exact AtD.weak (he ⟨g0, c0⟩) ⟨rfl, rfl, rfl, rfl, rfl, trivial⟩
    · refine StepD.by [] rfl rfl rfl rfl trivial (OpOk.alloc (cs := [.slice none 0 0, .slice none 0 0, .slice none 0 0, .slice none 0 0, .int .i64 0]) rfl (by kernel_rfl) fun b7 hb7 => ?_)
      refine AtD.fork1 0 (by kernel_rfl) (StepD.by [] rfl rfl rfl rfl trivial (OpOk.one true [] [hB 1] rfl (by (repeat' apply And.intro) <;> first | exact True.intro | omega | (simp only [inK]; omega) | (simp; done) | (simp; omega) | exact decide_eq_true (by omega) | exact decide_eq_false (by omega) | rfl | (simp [Value.oneCell']; done) | exact i64s_one _ | exact AggOk.mk (by kernel_rfl) (by kernel_rfl)) ?_))
      exact AtD.weak (hh ⟨g0, c0, b7⟩) ⟨rfl, rfl, rfl, rfl, rfl, rfl, trivial⟩
  · refine StepD.by [] rfl rfl rfl rfl trivial (OpOk.alloc (cs := [.slice none 0 0, .slice none 0 0, .slice none 0 0, .slice none 0 0, .int .i64 0]) rfl (by kernel_rfl) fun b7 hb7 => ?_)
    refine AtD.fork2 0 2 (by kernel_rfl) ?_ ?_
    · refine StepD.by [] rfl rfl rfl rfl trivial (OpOk.one true [] [hB 1] rfl (by (repeat' apply And.intro) <;> first | exact True.intro | omega | (simp only [inK]; omega) | (simp; done) | (simp; omega) | exact decide_eq_true (by omega) | exact decide_eq_false (by omega) | rfl | (simp [Value.oneCell']; done) | exact i64s_one _ | exact AggOk.mk (by kernel_rfl) (by kernel_rfl)) ?_)
      refine AtD.fork1 2 (by kernel_rfl) (StepD.by [] rfl rfl rfl rfl trivial (OpOk.call rfl (fun w' hw' => hOf hw') ?_))
      rintro v bx' hp' ⟨rfl, g0, c0, rfl, rfl⟩
      exact AtD.weak (hh ⟨g0, c0, b7⟩) ⟨rfl, rfl, rfl, rfl, rfl, rfl, trivial⟩
    · refine StepD.by [] rfl rfl rfl rfl trivial (OpOk.call rfl (fun w' hw' => hOf hw') ?_)
      rintro v bx' hp' ⟨rfl, g0, c0, rfl, rfl⟩
      refine AtD.fork1 0 (by kernel_rfl) (StepD.by [] rfl rfl rfl rfl trivial (OpOk.one true [] [hB 1] rfl (by (repeat' apply And.intro) <;> first | exact True.intro | omega | (simp only [inK]; omega) | (simp; done) | (simp; omega) | exact decide_eq_true (by omega) | exact decide_eq_false (by omega) | rfl | (simp [Value.oneCell']; done) | exact i64s_one _ | exact AggOk.mk (by kernel_rfl) (by kernel_rfl)) ?_))
      exact AtD.weak (hh ⟨g0, c0, b7⟩) ⟨rfl, rfl, rfl, rfl, rfl, rfl, trivial⟩
end Go.Proofs

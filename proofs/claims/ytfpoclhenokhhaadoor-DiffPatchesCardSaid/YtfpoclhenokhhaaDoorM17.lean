/-
  Walks of layer 14: a book's table.
-/
import Derived.Test.YtfpoclhenokhhaaDoorM14
import Derived.Test.YtfpoclhenokhhaaDoorM16
import Derived.Test.YtfpoclhenokhhaaDoorM5
import Derived.DeepKeys3
/-
  Walks of layer 14: a book's table.
-/
namespace Go.Proofs
open Go Go.Eng
set_option maxRecDepth 100000
set_option maxHeartbeats 4000000
attribute [local irreducible] Tri

theorem Tryd.keyK : KeyRun Tryd.prog 62 K3 := by
  refine KeyRun.of (Maps.Keyed.of_law (deep_law (m := 2) (by omega) (by kernel_rfl) (by kernel_rfl) (by kernel_rfl))) (fun v hv => ?_)
  obtain ⟨⟨k1, k2, k3⟩, rfl, h1, h2, h3⟩ := hv
  have hu : Tryd.prog.underlying 62 = some (.array 3 2) := by kernel_rfl
  have hi : Tryd.prog.underlying 2 = some (.int .i64) := by kernel_rfl
  have hc : Tryd.prog.cellsOf 2 = 1 := by kernel_rfl
  have hck : Tryd.prog.cellsOf 62 = 3 := by kernel_rfl
  have hkt : Tryd.prog.keyType 62 = true := by kernel_rfl
  have hwf : ∀ {k : Int}, inK .i64 k → (Lit.int .i64 k).wf = true := fun {k} h => by simp only [Lit.wf, Bool.and_eq_true, decide_eq_true_eq]; exact h
  have hts := Nat.le_of_ble_eq_true (show Nat.ble 1 Tryd.prog.types.size = true by kernel_rfl)
  obtain ⟨n, hn⟩ : ∃ n, Tryd.prog.types.size = n + 1 := ⟨Tryd.prog.types.size - 1, by omega⟩
  have one : ∀ {k : Int}, inK .i64 k → Tryd.prog.keyLits (n + 1) 2 [.int .i64 k] = some [.int .i64 k] := fun {k} h => by
    simp only [Program.keyLits, hi, true_and]
    rw [if_pos (hwf h)]
  have hr : List.range 3 = [0, 1, 2] := by decide
  have e1 := one h1
  have e2 := one h2
  have e3 := one h3
  simp only at e1 e2 e3
  refine ⟨.string (keyBytes [.int .i64 k1, .int .i64 k2, .int .i64 k3]), ?_⟩
  unfold keyOf
  simp only [hu, hkt, Value.formed, key3, hck, hn, Bool.true_and]
  rw [if_pos (by rfl)]
  have harr : Tryd.prog.keyLits (n + 1 + 1) 62 [.int .i64 k1, .int .i64 k2, .int .i64 k3] = ((List.range 3).mapM fun i => Tryd.prog.keyLits (n + 1) 2 ((([.int .i64 k1, .int .i64 k2, .int .i64 k3] : List Value).drop (i * 1)).take 1)).map List.flatten := by
    conv => lhs; unfold Program.keyLits
    simp only [hu, hck, hc]
    rfl
  show (Tryd.prog.keyLits (n + 1 + 1) 62 [.int .i64 k1, .int .i64 k2, .int .i64 k3]).map _ = _
  rw [harr, hr]
  simp only [List.mapM_cons, List.mapM_nil, Nat.zero_mul, Nat.one_mul, Nat.mul_one, List.drop_zero, List.take_succ_cons, List.take_zero, List.drop_succ_cons, e1, e2, e3]
  rfl
theorem Tryd.tableT : Tryd.prog.underlying 58 = some (.map 62 44) := by kernel_rfl

def tEnt (x : YE) : Value × Value := (key3 x.k, .slice (some ⟨x.b, 0, none⟩) x.v.length x.v.length)
/-- A table: its entries, and where the values lie. -/
def Tryd.tabS (m : Nat) (T : List YE) : Seg := Seg.pack (T.flatMap Tryd.yeB) [Seg.mapQ m K3 (T.map tEnt)]

theorem Tryd.rows_w (b : Bk) (A : BkA) (w : World) : Tri Tryd.prog 53 [.agg ⟨bkV b A⟩] w [] (fun v bx hp => ∃ bb, v = .func (.func 81) ⟨[]⟩ ⟨[.pointer (some ⟨bb, 0, none⟩)]⟩ ∧ bx = [(bb, 27, bkV b A)] ∧ hp = []) := by
  refine Tri.enter (bx := []) (hp := []) Tryd.func53 rfl (by kernel_rfl) rfl (Own.nil w) ?_
  refine At.run 100 true [] [] rfl trivial ?_
  refine At.step [] rfl rfl rfl rfl rfl trivial (OpOk.box rfl rfl rfl fun bq hbq => ?_)
  refine At.run 100 true [] [] rfl (by (repeat' apply And.intro) <;> first | exact True.intro | omega | (simp only [inK]; omega) | (simp; done) | (simp; omega) | exact decide_eq_true (by omega) | exact decide_eq_false (by omega) | rfl | (simp [Value.oneCell']; done) | exact i64s_one _ | exact AggOk.mk (by kernel_rfl) (by kernel_rfl)) ?_
  exact At.ret [] rfl Tryd.func53 rfl trivial ⟨bq, rfl, rfl, rfl⟩

theorem Tryd.table_w (b : Bk) (A : BkA) (w : World) (hi : BkIn b) (ho : BkOk w b A) (hl : listsB b = true) :
    Tri Tryd.prog 22 [.agg ⟨bkV b A⟩] w [] (fun v bx hp => ∃ m T, v = .map (some m) ∧ bx = [] ∧ hp = [Tryd.tabS m T] ∧ T.map YE.row = rowsB b) := by
  obtain ⟨a1, a2, a3, a4, c1, c2, c3, c4⟩ := A
  refine Tri.enter (bx := []) (hp := []) Tryd.func22 rfl (by kernel_rfl) rfl (Own.nil w) ?_
  refine At.run 100 true [] [] rfl trivial ?_
  refine At.step [] rfl rfl rfl rfl rfl trivial (OpOk.box rfl rfl rfl fun bq hbq => ?_)
  refine At.run 100 true [] [] rfl (by (repeat' apply And.intro) <;> first | exact True.intro | omega | (simp only [inK]; omega) | (simp; done) | (simp; omega) | exact decide_eq_true (by omega) | exact decide_eq_false (by omega) | rfl | (simp [Value.oneCell']; done) | exact i64s_one _ | exact AggOk.mk (by kernel_rfl) (by kernel_rfl)) ?_
  refine At.step [] rfl rfl rfl rfl rfl trivial (OpOk.makeMapQ K3 rfl fun m => ?_)
  refine At.step [] rfl rfl rfl rfl rfl trivial (OpOk.alloc (cs := [.map none]) rfl (by kernel_rfl) fun b3 hb3 => ?_)
  refine At.run 100 true [] [hB 0, hB 1] rfl (by (repeat' apply And.intro) <;> first | exact True.intro | omega | (simp only [inK]; omega) | (simp; done) | (simp; omega) | exact decide_eq_true (by omega) | exact decide_eq_false (by omega) | rfl | (simp [Value.oneCell']; done) | exact i64s_one _ | exact AggOk.mk (by kernel_rfl) (by kernel_rfl)) ?_
  refine At.step [] rfl rfl rfl rfl rfl trivial (OpOk.call rfl (fun w' _ => Tryd.rows_w b ⟨a1, a2, a3, a4, c1, c2, c3, c4⟩ w') ?_)
  rintro v bx' hp' ⟨bb, rfl, rfl, rfl⟩
  refine At.run 100 true [] [] rfl (by (repeat' apply And.intro) <;> first | exact True.intro | omega | (simp only [inK]; omega) | (simp; done) | (simp; omega) | exact decide_eq_true (by omega) | exact decide_eq_false (by omega) | rfl | (simp [Value.oneCell']; done) | exact i64s_one _ | exact AggOk.mk (by kernel_rfl) (by kernel_rfl)) ?_
  refine At.reshape (br := [(bb, 27, bkV b ⟨a1, a2, a3, a4, c1, c2, c3, c4⟩), (b3, 58, [.map (some m)]), (bq, 27, bkV b ⟨a1, a2, a3, a4, c1, c2, c3, c4⟩)]) (hr := [Tryd.tabS m []]) (fun w' hw' => WOk.packG (bx := []) (hp := [Seg.mapQ m K3 []]) (hp0 := []) (by simpa using hw')) ?_
  have hnd := (rowsB_ris hl)
  refine At.rangeB (bi := [(bb, 27, bkV b ⟨a1, a2, a3, a4, c1, c2, c3, c4⟩)]) (bc := [(b3, 58, [.map (some m)]), (bq, 27, bkV b ⟨a1, a2, a3, a4, c1, c2, c3, c4⟩)]) (hp := [Tryd.tabS m []]) rfl rfl rfl
    (rd := slR a1 (b.H.flatMap i64s) ++ (slR a2 (b.S.flatMap i64s) ++ (slR a3 (b.O.flatMap i64s) ++ slR a4 (b.R.flatMap i64s)))) (fun k hk => ⟨by
      simp only [List.mem_append] at hk
      rcases hk with hk | hk | hk | hk
      · exact ho.h1.ltR k hk
      · exact ho.h2.ltR k hk
      · exact ho.h3.ltR k hk
      · exact ho.h4.ltR k hk, by simp [kys]⟩)
    (enc := YE.enc) (bxe := Tryd.yeB) (okp := fun pre : List YE => pre.map YE.row <+: rowsB b) (fin := fun xs : List YE => xs.map YE.row = rowsB b) (fun _ => rfl) rfl
    (fun pre bx hp => bx = [(b3, 58, [.map (some m)]), (bq, 27, bkV b ⟨a1, a2, a3, a4, c1, c2, c3, c4⟩)] ∧ hp = [Tryd.tabS m pre]) ⟨rfl, rfl⟩
    (fun w' hext => Tryd.rows1_w b a1 a2 a3 a4 c1 c2 c3 c4 bb w' hi (ho.ext hext (by simp [kys]))) ?_ ?_
  · rintro lp D tm pre x bx hp w' hpre ⟨rfl, rfl⟩ hext
    have hxin : RowIn x.row := rowsB_in hi _ (hpre.subset (by simp))
    have hnew : ∀ p, p ∈ pre.map tEnt → p.1 ≠ key3 x.k := by
      intro p hp e
      obtain ⟨z, hz, rfl⟩ := List.mem_map.1 hp
      have hzx : z.k = x.k := key3_inj e
      have h1 : ((pre ++ [x]).map YE.row).Pairwise fun p q => lt3 p.1 q.1 := hnd.sublist hpre.sublist
      rw [List.map_append, List.pairwise_append] at h1
      have := h1.2.2 z.row (List.mem_map_of_mem hz) x.row (by simp)
      exact lt3_ne this hzx
    refine At.run 100 true [] [] rfl trivial ?_
    refine At.step [] rfl rfl rfl rfl rfl trivial (OpOk.alloc (cs := [.int .i64 0, .int .i64 0, .int .i64 0]) rfl (by kernel_rfl) fun b4 hb4 => ?_)
    refine At.run 100 true [] [hB 0] rfl (by (repeat' apply And.intro) <;> first | exact i64s_one [_, _, _] | exact True.intro | omega | rfl | (simp only [inK]; omega) | exact decide_eq_true (by omega) | exact decide_eq_false (by omega) | (simp; done) | (simp; omega) | (simp [Value.oneCell']; done) | exact i64s_one _ | exact AggOk.mk (by kernel_rfl) (by kernel_rfl)) ?_
    refine At.begin ?_
    refine At.run 100 true [] [hB 2, hB 0] rfl (by (repeat' apply And.intro) <;> first | exact True.intro | omega | (simp only [inK]; omega) | (simp; done) | (simp; omega) | exact decide_eq_true (by omega) | exact decide_eq_false (by omega) | rfl | (simp [Value.oneCell']; done) | exact i64s_one _ | exact AggOk.mk (by kernel_rfl) (by kernel_rfl)) ?_
    refine At.order [] [1] rfl rfl ?_
    refine At.reshape (fun w' hw' => WOk.unpackG (hp := [Seg.mapQ m K3 (pre.map tEnt)]) hw') ?_
    refine At.step0 [] rfl rfl rfl rfl trivial (OpOk.mapPushQ 0 rfl rfl rfl rfl Tryd.tableT Tryd.keyK ⟨x.k, rfl, hxin.k⟩ rfl hnew ?_)
    refine At.reshape (br := [(b4, 62, [.int .i64 x.k.1, .int .i64 x.k.2.1, .int .i64 x.k.2.2]), (b3, 58, [.map (some m)]), (bq, 27, bkV b ⟨a1, a2, a3, a4, c1, c2, c3, c4⟩)]) (hr := Tryd.tabS m (pre ++ [x]) :: [_]) (fun w' hw' => WOk.packG (bx := (pre ++ [x]).flatMap Tryd.yeB) (hp := [Seg.mapQ m K3 ((pre ++ [x]).map tEnt)]) (by
      rw [List.flatMap_append, List.map_append]
      refine WOk.permB hw' ?_ (List.Perm.refl _)
      simp only [List.flatMap_cons, List.flatMap_nil, List.append_nil, Tryd.yeB, List.cons_append, List.nil_append]
      refine List.Perm.cons _ ?_
      refine (List.perm_append_comm (l₁ := [(x.b, 2, i64s x.v)]) (l₂ := [(b3, 58, [.map (some m)]), (bq, 27, bkV b ⟨a1, a2, a3, a4, c1, c2, c3, c4⟩)] ++ pre.flatMap Tryd.yeB)).trans ?_
      simp)) ?_
    refine At.run 100 true [] [] rfl (by (repeat' apply And.intro) <;> first | exact True.intro | omega | (simp only [inK]; omega) | (simp; done) | (simp; omega) | exact decide_eq_true (by omega) | exact decide_eq_false (by omega) | rfl | (simp [Value.oneCell']; done) | exact i64s_one _ | exact AggOk.mk (by kernel_rfl) (by kernel_rfl)) ?_
    refine At.order [] [1] rfl rfl ?_
    refine At.keep [false, true, true] [true, true] rfl ?_
    exact At.roundEnd ⟨_, rfl, rfl, rfl⟩
  · rintro D bx' hp' xs hfin ⟨rfl, rfl⟩
    refine At.run 100 true [] [hB 1] rfl (by (repeat' apply And.intro) <;> first | exact True.intro | omega | (simp only [inK]; omega) | (simp; done) | (simp; omega) | exact decide_eq_true (by omega) | exact decide_eq_false (by omega) | rfl | (simp [Value.oneCell']; done) | exact i64s_one _ | exact AggOk.mk (by kernel_rfl) (by kernel_rfl)) ?_
    refine At.keep [] [true, true] rfl ?_
    exact At.retC (hp := [_]) [] rfl Tryd.func22 rfl trivial ⟨m, xs, rfl, rfl, rfl, hfin⟩

end Go.Proofs

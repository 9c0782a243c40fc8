/-
  Walks of the library: numerals read, words split.
-/
import Derived.Test.YtgkphfipielnhaaDoorM16
import Derived.Test.YtgkphfipielnhaaDoorM7
import Derived.Test.YtgkphfipielnhaaDoorM26
import Derived.Test.YtgkphfipielnhaaDoorM11
import Derived.Test.YtgkphfipielnhaaDoorM12
import Derived.Test.YtgkphfipielnhaaDoorM21
import Derived.Test.YtgkphfipielnhaaDoorM24
/-
  Walks of the library: numerals read, words split.
-/
namespace Go.Proofs
open Go Go.Eng
set_option maxRecDepth 100000
set_option maxHeartbeats 4000000
attribute [local irreducible] Tri

/-- What lies in the library's variables. -/
structure Tryd.TxW (W : World) : Prop where
  nms : Tryd.Nms W
  pow : Tryd.Pow W
  max : ∃ m, W.cell? ⟨6, 0, none⟩ = some (.int .i64 m)
  syn : ∃ T p, W.cell? ⟨3, 0, none⟩ = some (.iface T p)
  rng : ∃ T p, W.cell? ⟨4, 0, none⟩ = some (.iface T p)
theorem Tryd.TxW.ext {w w' : World} (h : Tryd.TxW w) (he : Ext [] w w') : Tryd.TxW w' := by
  obtain ⟨h1, h2, ⟨m, h3⟩, ⟨T, p, h4⟩, ⟨T', p', h5⟩⟩ := h
  exact ⟨h1.ext he (by simp), tab_ext h2 he, ⟨m, he.cell h3 (by simp)⟩, ⟨T, p, he.cell h4 (by simp)⟩, ⟨T', p', he.cell h5 (by simp)⟩⟩

theorem Tryd.clone_w (l : List UInt8) (w : World) (hl : l.length ≤ 1000000) : Fun Tryd.prog 170 [str l] w (str l) := by
  refine Tri.enter (bx := []) (hp := []) Tryd.func170 rfl (by kernel_rfl) rfl (Own.nil w) ?_
  by_cases h0 : l = []
  · subst h0
    refine At.go [true] [] rfl (by and_intros <;> first | (simp [bl]; done) | exact oK) ?_
    refine At.rt [] [] [] Tryd.func170 ?_
    exact ⟨rfl, rfl, rfl⟩
  · have hp : 0 < l.length := List.length_pos_iff.2 h0
    refine At.go [false] [] rfl (by and_intros <;> first | (simp [bl, h0]; done) | exact oK) ?_
    refine At.step [] rfl rfl rfl rfl rfl trivial (OpOk.makeSlice (sz := 1) (by_ := 1) (xs := u8s (List.replicate l.length 0)) l.length rfl rfl rfl rfl (some_int_eq (by rw [bl_of])) (some_int_eq (by rw [bl_of])) (by omega) (by omega) (by omega) (by simp [u8s]) (fun j hj => by rw [u8s_rep, List.getElem?_replicate, if_pos (by omega), show j % [Value.int .u8 0].length = 0 from Nat.mod_one j]; rfl) (by decide) (fun g => ?_))
    refine At.go [] [] rfl oK ?_
    refine At.step [] rfl rfl rfl rfl rfl trivial (OpOk.copyInto (m := l.length) (u := u8s (bl ⟨l.toArray⟩)) 0 rfl rfl rfl rfl (fun w' hw' => SrcOk.str _) (u8s_one _) (by rw [bl_of, u8s_len]; omega) (by rw [u8s_len, List.length_replicate]; omega) ?_)
    rw [show putL (u8s (List.replicate l.length 0)) 0 ((u8s (bl ⟨l.toArray⟩)).take l.length) = u8s l by
      rw [bl_of, List.take_of_length_le (by rw [u8s_len]; exact Nat.le_refl _), putL_eq _ _ _ (by rw [u8s_len, u8s_len, List.length_replicate]; omega), List.take_zero, List.nil_append, List.drop_of_length_le (by rw [u8s_len, u8s_len, List.length_replicate]; omega), List.append_nil]]
    refine At.go [] [] rfl oK ?_
    refine At.step [] rfl rfl rfl rfl rfl trivial (OpOk.unsafeStr rfl rfl rfl h0 rfl (by omega) ?_)
    refine At.go [] [] rfl oK ?_
    refine At.rt [] [] [] Tryd.func170 ?_
    exact ⟨rfl, rfl, rfl⟩
theorem Tryd.synErr_w (f l : List UInt8) (w : World) (hl : l.length ≤ 1000000) (hW : Tryd.TxW w) : Tri Tryd.prog 126 [str f, str l] w [] (fun v bx hp => ∃ N, v = .pointer (some ⟨N, 0, none⟩) ∧ bx = [] ∧ hp = []) := by
  refine Tri.enter (bx := []) (hp := []) Tryd.func126 rfl (by kernel_rfl) rfl (Own.nil w) ?_
  obtain ⟨T, p, hc⟩ := hW.syn
  have hC1 : ∀ {bx : Bx} {hp : List Seg}, CallOb Tryd.prog ⟨w, kys [] []⟩ bx hp 170 [str l] (str l) := fun {_ _} w' _ => Tryd.clone_w l w' hl
  have r : ∀ {bx : Bx} {hp : List Seg}, RdW ⟨w, kys [] []⟩ bx hp 3 0 [.iface T p] := fun {_ _} => RdW.base1 (by simp [kys]) hc
  refine At.go [] [] rfl (by and_intros <;> first | exact r | exact hC1 | exact oK) ?_
  refine At.qT 5 2 [] [hC (.string { data := l.toArray }), hR [.iface T p]] rfl rfl (by and_intros <;> first | exact r | exact hC1 | exact oK) ?_
  refine AtD.f1b 5 fun b10 hb10 => ?_
  refine AtD.pu [6] 0 rfl (by and_intros <;> first | exact r | exact hC1 | exact oK) ?_
  refine AtD.dn ?_
  refine At.go [] [] rfl (by and_intros <;> first | exact r | exact hC1 | exact oK) ?_
  refine At.rt [] [] [] Tryd.func126 ?_
  exact ⟨_, rfl, rfl, rfl⟩
theorem Tryd.rngErr_w (f l : List UInt8) (w : World) (hl : l.length ≤ 1000000) (hW : Tryd.TxW w) : Tri Tryd.prog 127 [str f, str l] w [] (fun v bx hp => ∃ N, v = .pointer (some ⟨N, 0, none⟩) ∧ bx = [] ∧ hp = []) := by
  refine Tri.enter (bx := []) (hp := []) Tryd.func127 rfl (by kernel_rfl) rfl (Own.nil w) ?_
  obtain ⟨T, p, hc⟩ := hW.rng
  have hC1 : ∀ {bx : Bx} {hp : List Seg}, CallOb Tryd.prog ⟨w, kys [] []⟩ bx hp 170 [str l] (str l) := fun {_ _} w' _ => Tryd.clone_w l w' hl
  have r : ∀ {bx : Bx} {hp : List Seg}, RdW ⟨w, kys [] []⟩ bx hp 4 0 [.iface T p] := fun {_ _} => RdW.base1 (by simp [kys]) hc
  refine At.go [] [] rfl (by and_intros <;> first | exact r | exact hC1 | exact oK) ?_
  refine At.qT 5 2 [] [hC (.string { data := l.toArray }), hR [.iface T p]] rfl rfl (by and_intros <;> first | exact r | exact hC1 | exact oK) ?_
  refine AtD.f1b 5 fun b10 hb10 => ?_
  refine AtD.pu [6] 0 rfl (by and_intros <;> first | exact r | exact hC1 | exact oK) ?_
  refine AtD.dn ?_
  refine At.go [] [] rfl (by and_intros <;> first | exact r | exact hC1 | exact oK) ?_
  refine At.rt [] [] [] Tryd.func127 ?_
  exact ⟨_, rfl, rfl, rfl⟩

theorem Tryd.toErrS_w (f l : List UInt8) (w : World) (hl : l.length ≤ 1000000) (hW : Tryd.TxW w) : Tri Tryd.prog 84 [str f, str l, .int .i64 10, .int .i64 64, .iface 188 (.int .i64 2)] w [] (fun v bx hp => ∃ N, v = .iface 191 (.pointer (some ⟨N, 0, none⟩)) ∧ bx = [] ∧ hp = []) := by
  refine Tri.enter (bx := []) (hp := []) Tryd.func84 rfl (by kernel_rfl) rfl (Own.nil w) ?_
  refine At.go [] [] rfl oK ?_
  refine At.step [] rfl rfl rfl rfl rfl trivial (OpOk.makeIface rfl rfl rfl rfl ?_)
  skip
  refine At.step [] rfl rfl rfl rfl rfl trivial (OpOk.eqIfInt rfl rfl rfl rfl rfl rfl rfl ?_)
  refine At.go [true] [] rfl (by and_intros <;> first | (simp; done) | exact oK) ?_
  refine At.step [] rfl rfl rfl rfl rfl trivial (OpOk.call rfl (fun w' hw' => Tryd.synErr_w f l w' hl (hW.ext hw'.ext)) ?_)
  rintro _ _ _ ⟨N, rfl, rfl, rfl⟩
  skip
  refine At.step [] rfl rfl rfl rfl rfl trivial (OpOk.makeIface rfl rfl rfl rfl ?_)
  refine At.go [] [] rfl oK ?_
  refine At.rt [] [] [] Tryd.func84 ?_
  exact ⟨N, rfl, rfl, rfl⟩
theorem Tryd.toErrR_w (f l : List UInt8) (w : World) (hl : l.length ≤ 1000000) (hW : Tryd.TxW w) : Tri Tryd.prog 84 [str f, str l, .int .i64 10, .int .i64 64, .iface 188 (.int .i64 1)] w [] (fun v bx hp => ∃ N, v = .iface 191 (.pointer (some ⟨N, 0, none⟩)) ∧ bx = [] ∧ hp = []) := by
  refine Tri.enter (bx := []) (hp := []) Tryd.func84 rfl (by kernel_rfl) rfl (Own.nil w) ?_
  refine At.go [] [] rfl oK ?_
  refine At.step [] rfl rfl rfl rfl rfl trivial (OpOk.makeIface rfl rfl rfl rfl ?_)
  skip
  refine At.step [] rfl rfl rfl rfl rfl trivial (OpOk.eqIfInt rfl rfl rfl rfl rfl rfl rfl ?_)
  refine At.go [false] [] rfl (by and_intros <;> first | (simp; done) | exact oK) ?_
  refine At.step [] rfl rfl rfl rfl rfl trivial (OpOk.makeIface rfl rfl rfl rfl ?_)
  skip
  refine At.step [] rfl rfl rfl rfl rfl trivial (OpOk.eqIfInt rfl rfl rfl rfl rfl rfl rfl ?_)
  refine At.go [true] [] rfl (by and_intros <;> first | (simp; done) | exact oK) ?_
  refine At.step [] rfl rfl rfl rfl rfl trivial (OpOk.call rfl (fun w' hw' => Tryd.rngErr_w f l w' hl (hW.ext hw'.ext)) ?_)
  rintro _ _ _ ⟨N, rfl, rfl, rfl⟩
  skip
  refine At.step [] rfl rfl rfl rfl rfl trivial (OpOk.makeIface rfl rfl rfl rfl ?_)
  refine At.go [] [] rfl oK ?_
  refine At.rt [] [] [] Tryd.func84 ?_
  exact ⟨N, rfl, rfl, rfl⟩
theorem ext_or {w w' : World} {e : TypeId} (h : w' = w ∨ ∃ t, w' = Lib.bytesWorld w e t) : Ext [] w w' := by
  rcases h with rfl | ⟨t, rfl⟩
  · exact Ext.refl _ _
  · exact ext_bytes _ _ _
theorem Tryd.parseOk_w (s : List UInt8) (n : Int) (w : World) (hl : s.length ≤ 1000000) (h : pnum s = some n) : Fun Tryd.prog 46 [str s, .int .i64 10, .int .i64 64] w (.tuple #[.int .i64 n, .nilIface]) := by
  have hp : Lib.parseIntB 64 s = .ok n := by
    unfold pnum at h
    split at h
    · rename_i v hv; rw [hv]; simp only [Option.some.injEq] at h; rw [h]
    · cases h
  exact Fun.ofExt Tryd.func46 ((Tryd.strconv_ParseInt_10_at64_ok ⟨s.toArray⟩ (by show s.toArray.size ≤ _; simp; omega) n hp w).mono fun e w' ⟨he, hw⟩ => ⟨he, ext_or hw⟩)
theorem Tryd.parseE_w (s : List UInt8) (w : World) (hl : s.length ≤ 1000000) (h : pnum s = none) (hW : Tryd.TxW w) : Tri Tryd.prog 46 [str s, .int .i64 10, .int .i64 64] w [] (fun v bx hp => ∃ n N, v = .tuple #[.int .i64 n, .iface 191 (.pointer (some ⟨N, 0, none⟩))] ∧ bx = [] ∧ hp = []) := by
  refine Tri.enter (bx := []) (hp := []) Tryd.func46 rfl (by kernel_rfl) rfl (Own.nil w) ?_
  have hI : ∀ {bx : Bx} {hp : List Seg}, CallOb Tryd.prog ⟨w, kys [] []⟩ bx hp 83 [str s, .int .i64 10, .int .i64 64] (Lib.intTuple 188 (Lib.intSat 64 s) (Lib.parseIntB 64 s)) := fun {_ _} w' _ => Fun.ofExt Tryd.func83 ((Tryd.internal_strconv_ParseInt_10_all64 ⟨s.toArray⟩ (by show s.toArray.size ≤ _; simp; omega) w').mono fun e w' ⟨he, hw⟩ => ⟨he, ext_or hw⟩)
  cases hp : Lib.parseIntB 64 s with
  | ok n => unfold pnum at h; rw [hp] at h; cases h
  | range =>
    rw [hp] at hI
    simp only [Lib.intTuple] at hI
    refine At.go [] [hC (.tuple ⟨[.int .i64 (Lib.intSat 64 s), .iface 188 (.int .i64 1)]⟩)] rfl (by and_intros <;> first | exact hI | exact oK) ?_
    refine At.step [] rfl rfl rfl rfl rfl trivial (OpOk.neqNil rfl rfl rfl (.inr ⟨⟨_, _, rfl⟩, rfl⟩) ?_)
    refine At.go [true] [] rfl oK ?_
    refine At.step [] rfl rfl rfl rfl rfl trivial (OpOk.call rfl (fun w' hw' => Tryd.toErrR_w [80, 97, 114, 115, 101, 73, 110, 116] s w' hl (hW.ext hw'.ext)) ?_)
    rintro _ _ _ ⟨N, rfl, rfl, rfl⟩
    refine At.go [] [] rfl oK ?_
    refine At.rt [] [] [] Tryd.func46 ?_
    exact ⟨_, N, rfl, rfl, rfl⟩
  | _ =>
    rw [hp] at hI
    simp only [Lib.intTuple] at hI
    refine At.go [] [hC (.tuple ⟨[.int .i64 0, .iface 188 (.int .i64 2)]⟩)] rfl (by and_intros <;> first | exact hI | exact oK) ?_
    refine At.step [] rfl rfl rfl rfl rfl trivial (OpOk.neqNil rfl rfl rfl (.inr ⟨⟨_, _, rfl⟩, rfl⟩) ?_)
    refine At.go [true] [] rfl oK ?_
    refine At.step [] rfl rfl rfl rfl rfl trivial (OpOk.call rfl (fun w' hw' => Tryd.toErrS_w [80, 97, 114, 115, 101, 73, 110, 116] s w' hl (hW.ext hw'.ext)) ?_)
    rintro _ _ _ ⟨N, rfl, rfl, rfl⟩
    refine At.go [] [] rfl oK ?_
    refine At.rt [] [] [] Tryd.func46 ?_
    exact ⟨_, N, rfl, rfl, rfl⟩

/-- The words of a text, in a block of their own. -/
theorem Tryd.split_w (l : List UInt8) (w : World) (hl : l.length ≤ 1000000) (hW : Tryd.TxW w) : Tri Tryd.prog 45 [str l, str [32]] w [] (fun v bx hp => ∃ b, v = .slice (some ⟨b, 0, none⟩) (wordsA [] l).length (wordsA [] l).length ∧ bx = [(b, 9, (wordsA [] l).map str)] ∧ hp = []) := by
  obtain ⟨m, hm⟩ := hW.max
  refine Tri.mk ⟨_, Tryd.func45, rfl, by decide⟩ ?_
  refine (Tryd.strings_Split ⟨l.toArray⟩ ⟨#[32]⟩ m w (by show l.toArray.size < _; simp; omega) hm (by decide)).mono ?_
  rintro e w' ⟨rfl, rfl⟩
  have hsp : (Lib.splitB ⟨#[32]⟩ 0 (Lib.countB ⟨l.toArray⟩ ⟨#[32]⟩) ⟨l.toArray⟩).map (·.data.toList) = wordsA [] l := by rw [Lib.splitB_data]; exact split_words l
  have hlen : Lib.countB ⟨l.toArray⟩ ⟨#[32]⟩ + 1 = (wordsA [] l).length := by
    rw [← hsp, List.length_map]; exact (Lib.splitB_all ⟨#[32]⟩ (by decide) 0 _ ⟨l.toArray⟩ rfl).symm
  have hcs : (Lib.splitB ⟨#[32]⟩ 0 (Lib.countB ⟨l.toArray⟩ ⟨#[32]⟩) ⟨l.toArray⟩).map Value.string = (wordsA [] l).map str := by
    rw [← hsp, List.map_map]; exact List.map_congr_left fun s _ => rfl
  rw [hcs]
  refine ⟨_, [(w.heap.size, 9, (wordsA [] l).map str)], [], rfl, ⟨w.heap.size, by rw [hlen], rfl, rfl⟩, ⟨rfl, rfl, rfl, (by first | exact Nat.le_refl _ | exact Nat.le_succ _ | exact Nat.le_add_right _ _), by simp, fun k hk _ => RowKit.Below.heap_alloc w _ k hk⟩, ⟨by simp [kys], fun k hk => ?_, fun e he => ?_, by simp⟩, fun k hk => ?_⟩
  · have : k = w.heap.size := by simpa [kys] using hk
    subst this; simp
  · simp only [List.mem_singleton] at he; subst he
    exact (MapKept.heap_alloc w _).1
  · have : k = w.heap.size := by simpa [kys] using hk
    exact .inr (by omega)
end Go.Proofs

/-
  Walks of layer 32: a line parsed.
-/
namespace Go.Proofs
open Go Go.Eng
set_option maxRecDepth 100000
set_option maxHeartbeats 4000000
attribute [local irreducible] Tri

theorem wordsA_cons : ∀ (l cur : List UInt8), ∃ w0 ws, wordsA cur l = w0 :: ws
  | [], cur => ⟨cur, [], rfl⟩
  | c :: l, cur => by
    rw [wordsA]
    split
    · exact ⟨_, _, rfl⟩
    · exact wordsA_cons l _
theorem wordsA_len : ∀ (l cur : List UInt8), ∀ s, s ∈ wordsA cur l → s.length ≤ cur.length + l.length
  | [], cur, s, h => by rw [wordsA, List.mem_singleton] at h; subst h; simp
  | c :: l, cur, s, h => by
    rw [wordsA] at h
    split at h
    · rcases List.mem_cons.1 h with rfl | h
      · simp
      · have := wordsA_len l [] s h; simp at this ⊢; omega
    · have := wordsA_len l (cur ++ [c]) s h; simp at this ⊢; omega
theorem pad7_snoc {ns : List Int} {n : Int} (h : ns.length < 7) : pad7 (ns ++ [n]) = (pad7 ns).set ns.length n := by
  unfold pad7
  obtain ⟨k, hk⟩ : ∃ k, 7 - ns.length = k + 1 := ⟨6 - ns.length, by omega⟩
  rw [hk, List.replicate_succ, List.length_append, List.length_singleton, show 7 - (ns.length + 1) = k by omega, List.append_assoc, List.set_append_right _ _ (Nat.le_refl _), Nat.sub_self]
  rfl
theorem allW_take {f : List UInt8 → Option Int} {ws : List (List UInt8)} {i : Nat} {s : List UInt8} {ns : List Int} (h : allW f (ws.take i) = some ns) (hs : ws[i]? = some s) : allW f (ws.take (i + 1)) = (f s).map fun n => ns ++ [n] := by
  rw [List.take_add_one, hs]; exact allW_snoc f s _ h
theorem Tryd.parse_w (l : List UInt8) (w : World) (hl : l.length ≤ 1000000) (hW : Tryd.TxW w) : Fun Tryd.prog 16 [str l] w (.tuple #[.agg ⟨i64s (lineB pnum l).1⟩, .int .i64 (lineB pnum l).2]) := by
  refine Tri.enter (bx := []) (hp := []) Tryd.func16 rfl (by kernel_rfl) rfl (Own.nil w) ?_
  by_cases h0 : l = []
  · subst h0
    refine At.go [] [] rfl (by and_intros <;> first | (simp [bl]; done) | exact oK) ?_
    refine At.al fun b2 hb2 => ?_
    refine At.go [true] [hB 0] rfl (by and_intros <;> first | (simp [bl]; done) | exact oK) ?_
    refine At.rt [] [] [hB 0] Tryd.func16 ?_
    exact ⟨rfl, rfl, rfl⟩
  refine At.go [] [] rfl (by and_intros <;> first | (simp [bl, h0]; done) | exact oK) ?_
  refine At.al fun b2 hb2 => ?_
  refine At.go [false] [] rfl (by and_intros <;> first | (simp [bl, h0]; done) | exact oK) ?_
  refine At.al fun b4 hb4 => ?_
  refine At.go [] [] rfl (by and_intros <;> first | (simp [bl, h0]; done) | exact oK) ?_
  refine At.al fun b5 hb5 => ?_
  refine At.al fun b6 hb6 => ?_
  refine At.go [] [] rfl (by and_intros <;> first | (simp [bl, h0]; done) | exact oK) ?_
  refine At.step [] rfl rfl rfl rfl rfl trivial (OpOk.buildSlice rfl rfl rfl rfl rfl rfl rfl (fun b hb => ?_))
  refine At.go [] [] rfl oK ?_
  refine At.step [] rfl rfl rfl rfl rfl trivial (OpOk.call rfl (fun w' hw' => Tryd.split_w l w' hl (hW.ext hw'.ext)) ?_)
  rintro _ _ _ ⟨bs, rfl, rfl, rfl⟩
  obtain ⟨w0, ws, hws⟩ := wordsA_cons l []
  rw [hws]
  have hlb : lineB pnum l = if 7 < ws.length then (zero7, (3 : Int)) else match allW pnum ws with
      | none => (zero7, 3)
      | some ns => if printB (pad7 ns) = l then (pad7 ns, 0) else (zero7, 3) := by unfold lineB; rw [if_neg h0, hws]; rfl
  by_cases hn : ws.length = 0
  · obtain rfl : ws = [] := List.length_eq_zero_iff.1 hn
    refine At.step [] rfl rfl rfl rfl rfl trivial (OpOk.sliceEnd 1 rfl rfl rfl rfl rfl ?_)
    refine At.go [false] [] rfl oK ?_
    have hq : pad7 [] = [0, 0, 0, 0, 0, 0, 0] := rfl
    have hfin : allW pnum [] = some [] := rfl
    refine At.unr ?_
    have hpl : (pad7 []).length = 7 := by rw [hq]; rfl
    have hP2 : ∀ {bx : Bx} {hp : List Seg}, CallOb Tryd.prog ⟨w, kys [] []⟩ bx hp 15 [.agg ⟨[.int .i64 0, .int .i64 0, .int .i64 0, .int .i64 0, .int .i64 0, .int .i64 0, .int .i64 0]⟩] (str (printB (pad7 []))) := fun {_ _} w' hw' => by
      have := Tryd.print_w (pad7 []) hpl (pad7_in (allW_in (fun w n h => pnum_in h) hfin)) w' (hW.nms.ext hw'.ext (by simp [kys])) (tab_ext hW.pow hw'.ext)
      rw [hq] at this ⊢; exact this
    by_cases he : printB (pad7 []) = l
    · refine At.go [false, false] [hB 3, hB 2, hB 4, hB 4, hB 4, hC (.string { data := (printB (pad7 [])).toArray }), hB 4, hB 5] rfl (by and_intros <;> first | exact hP2 | (simp [bl, he]; done) | exact oK) ?_
      refine At.rt [] [] [hB 5] Tryd.func16 ?_
      exact ⟨by rw [hlb, if_neg (by simp), hfin]; simp only [he, if_true]; (try rfl), rfl, rfl⟩
    · refine At.go [false, true] [hB 3, hB 2, hB 4, hB 4, hB 4, hC (.string { data := (printB (pad7 [])).toArray }), hB 5] rfl (by and_intros <;> first | exact hP2 | (simp [bl, he]; done) | exact oK) ?_
      refine At.rt [] [] [hB 5] Tryd.func16 ?_
      exact ⟨by rw [hlb, if_neg (by simp), hfin]; simp only [he, if_false]; (try rfl), rfl, rfl⟩
  · have hwl : (w0 :: ws).length = ws.length + 1 := rfl
    by_cases h7 : 7 < ws.length
    · refine At.go [true] [hB 5] rfl (by and_intros <;> first | (simp; omega) | exact oK) ?_
      refine At.rt [] [] [hB 5] Tryd.func16 ?_
      exact ⟨by rw [hlb, if_pos h7]; rfl, rfl, rfl⟩
    · refine At.go [false] [] rfl (by and_intros <;> first | (simp; omega) | exact oK) ?_
      rw [show (w0 :: ws).length - Int.toNat 1 = ws.length from rfl]
      refine At.loop (env0 := [(0, .string { data := l.toArray }), (2, .pointer (some ⟨b2, 0, none⟩)), (4, .pointer (some ⟨b4, 0, none⟩)), (5, .pointer (some ⟨b5, 0, none⟩)), (6, .pointer (some ⟨b6, 0, none⟩)), (7, .slice (some ⟨b, 0, none⟩) 7 7), (31, .slice (some ⟨bs, Int.toNat 1 * 1, none⟩) ws.length ws.length), (32, .int .i64 ↑ws.length), (33, .int .i64 0)]) (fun m_ env bx hp => ∃ (i : Nat) (ns : List Int) (k : Int) (a1 : Int) (a2 : Int) (a3 : Int) (d : Int) (a5 : Int) (a6 : Int), m_ = ws.length - i ∧ (i ≤ ws.length) ∧ (allW pnum (ws.take i) = some ns) ∧ (pad7 ns = [k, a1, a2, a3, d, a5, a6]) ∧ env = [(0, .string { data := l.toArray }), (2, .pointer (some ⟨b2, 0, none⟩)), (4, .pointer (some ⟨b4, 0, none⟩)), (5, .pointer (some ⟨b5, 0, none⟩)), (6, .pointer (some ⟨b6, 0, none⟩)), (7, .slice (some ⟨b, 0, none⟩) 7 7), (31, .slice (some ⟨bs, Int.toNat 1 * 1, none⟩) ws.length ws.length), (32, .int .i64 ↑ws.length), (33, .int .i64 i)] ∧ bx = [(bs, 9, .string { data := w0.toArray } :: List.map str ws), (b, 97, [.pointer (some ⟨b5, 0, none⟩), .pointer (some ⟨b4, 1, none⟩), .pointer (some ⟨b4, 2, none⟩), .pointer (some ⟨b4, 3, none⟩), .pointer (some ⟨b6, 0, none⟩), .pointer (some ⟨b4, 5, none⟩), .pointer (some ⟨b4, 6, none⟩)]), (b6, 2, [.int .i64 d]), (b5, 2, [.int .i64 k]), (b4, 36, [.int .i64 0, .int .i64 a1, .int .i64 a2, .int .i64 a3, .int .i64 0, .int .i64 a5, .int .i64 a6]), (b2, 36, [.int .i64 0, .int .i64 0, .int .i64 0, .int .i64 0, .int .i64 0, .int .i64 0, .int .i64 0])] ∧ hp = []) rfl
        ⟨0, [], 0, 0, 0, 0, 0, 0, 0, rfl, (by omega), (rfl), (rfl), rfl, rfl, rfl⟩ sB ?_
      rintro m_ env bx hp ⟨i, ns, k, a1, a2, a3, d, a5, a6, rfl, hi, hns, hq, rfl, rfl, rfl⟩ ih
      have hnl : ns.length = i := by rw [allW_len hns, List.length_take]; omega
      by_cases hlt : i < ws.length
      · obtain ⟨s, hs⟩ : ∃ s, ws[i]? = some s := ⟨_, List.getElem?_eq_getElem hlt⟩
        have hsl : s.length ≤ 1000000 := Nat.le_trans (wordsA_len l [] s (by rw [hws]; exact List.mem_cons_of_mem _ (List.mem_of_getElem? hs))) (by simp; omega)
        have r : ∀ {bx : Bx} {hp : List Seg}, nth bx 0 = some (bs, 9, str w0 :: ws.map str) → RdW ⟨w, kys [] []⟩ bx hp bs (Int.toNat 1 * 1 + (i : Int).toNat * 1) [str s] := fun {_ _} h => RdW.blk h fun j u hu => by
          match j, hu with
          | 0, hu =>
            simp at hu; subst hu
            rw [show Int.toNat 1 * 1 + (i : Int).toNat * 1 + 0 = i + 1 by simp; omega, List.getElem?_cons_succ, List.getElem?_map, hs]; rfl
        cases hp : pnum s with
        | none =>
          refine At.go [true] [hR [.string { data := s.toArray }]] rfl (by and_intros <;> first | exact r rfl | exact oK) ?_
          refine At.step [] rfl rfl rfl rfl rfl trivial (OpOk.call rfl (fun w' hw' => Tryd.parseE_w s w' hsl hp (hW.ext hw'.ext)) ?_)
          rintro _ _ _ ⟨n, N, rfl, rfl, rfl⟩
          refine At.go [] [] rfl oK ?_
          refine At.step [] rfl rfl rfl rfl rfl trivial (OpOk.neqNil rfl rfl rfl (.inr ⟨⟨_, _, rfl⟩, rfl⟩) ?_)
          refine At.go [true] [hB 5] rfl oK ?_
          refine At.rt [] [] [hB 5] Tryd.func16 ?_
          exact ⟨by rw [hlb, if_neg h7, allW_none pnum hp (List.mem_of_getElem? hs)]; rfl, rfl, rfl⟩
        | some n =>
          have hP : ∀ {bx : Bx} {hp : List Seg}, CallOb Tryd.prog ⟨w, kys [] []⟩ bx hp 46 [str s, .int .i64 10, .int .i64 64] (.tuple #[.int .i64 n, .nilIface]) := fun {_ _} w' _ => Tryd.parseOk_w s n w' hsl hp
          have hns' := allW_take hns hs
          rw [hp] at hns'
          simp only [Option.map_some] at hns'
          have hq' := pad7_snoc (ns := ns) (n := n) (by omega)
          rw [hq, hnl] at hq'
          refine At.go [true] [hR [.string { data := s.toArray }], hC (.tuple ⟨[.int .i64 n, .nilIface]⟩)] rfl (by and_intros <;> first | exact r rfl | exact hP | exact oK) ?_
          refine At.step [] rfl rfl rfl rfl rfl trivial (OpOk.neqNil rfl rfl rfl (.inl ⟨rfl, rfl⟩) ?_)
          have hi7 : i = 0 ∨ i = 1 ∨ i = 2 ∨ i = 3 ∨ i = 4 ∨ i = 5 ∨ i = 6 := by omega
          rcases hi7 with rfl | rfl | rfl | rfl | rfl | rfl | rfl
          · refine At.go [false] [hB 1, hB 3] rfl oK ?_
            exact At.weak (ih _ _ _ _ (by omega) ⟨1, ns ++ [n], n, a1, a2, a3, d, a5, a6, rfl, by omega, hns', hq', rfl, rfl, rfl⟩) sB
          · refine At.go [false] [hB 1, hB 4] rfl oK ?_
            exact At.weak (ih _ _ _ _ (by omega) ⟨2, ns ++ [n], k, n, a2, a3, d, a5, a6, rfl, by omega, hns', hq', rfl, rfl, rfl⟩) sB
          · refine At.go [false] [hB 1, hB 4] rfl oK ?_
            exact At.weak (ih _ _ _ _ (by omega) ⟨3, ns ++ [n], k, a1, n, a3, d, a5, a6, rfl, by omega, hns', hq', rfl, rfl, rfl⟩) sB
          · refine At.go [false] [hB 1, hB 4] rfl oK ?_
            exact At.weak (ih _ _ _ _ (by omega) ⟨4, ns ++ [n], k, a1, a2, n, d, a5, a6, rfl, by omega, hns', hq', rfl, rfl, rfl⟩) sB
          · refine At.go [false] [hB 1, hB 2] rfl oK ?_
            exact At.weak (ih _ _ _ _ (by omega) ⟨5, ns ++ [n], k, a1, a2, a3, n, a5, a6, rfl, by omega, hns', hq', rfl, rfl, rfl⟩) sB
          · refine At.go [false] [hB 1, hB 4] rfl oK ?_
            exact At.weak (ih _ _ _ _ (by omega) ⟨6, ns ++ [n], k, a1, a2, a3, d, n, a6, rfl, by omega, hns', hq', rfl, rfl, rfl⟩) sB
          · refine At.go [false] [hB 1, hB 4] rfl oK ?_
            exact At.weak (ih _ _ _ _ (by omega) ⟨7, ns ++ [n], k, a1, a2, a3, d, a5, n, rfl, by omega, hns', hq', rfl, rfl, rfl⟩) sB
      · rw [List.take_of_length_le (by omega)] at hns
        have hfin := hns
        have hpl : (pad7 ns).length = 7 := by rw [hq]; rfl
        have hP2 : ∀ {bx : Bx} {hp : List Seg}, CallOb Tryd.prog ⟨w, kys [] []⟩ bx hp 15 [.agg ⟨[.int .i64 k, .int .i64 a1, .int .i64 a2, .int .i64 a3, .int .i64 d, .int .i64 a5, .int .i64 a6]⟩] (str (printB (pad7 ns))) := fun {_ _} w' hw' => by
          have := Tryd.print_w (pad7 ns) hpl (pad7_in (allW_in (fun w n h => pnum_in h) hfin)) w' (hW.nms.ext hw'.ext (by simp [kys])) (tab_ext hW.pow hw'.ext)
          rw [hq] at this ⊢; exact this
        by_cases he : printB (pad7 ns) = l
        · refine At.go [false, false] [hB 3, hB 2, hB 4, hB 4, hB 4, hC (.string { data := (printB (pad7 ns)).toArray }), hB 4, hB 5] rfl (by and_intros <;> first | exact hP2 | (simp [bl, he]; done) | exact oK) ?_
          refine At.rt [] [] [hB 5] Tryd.func16 ?_
          exact ⟨by rw [hlb, if_neg h7, hfin]; simp only [he, if_true]; rw [hq]; (try rfl), rfl, rfl⟩
        · refine At.go [false, true] [hB 3, hB 2, hB 4, hB 4, hB 4, hC (.string { data := (printB (pad7 ns)).toArray }), hB 5] rfl (by and_intros <;> first | exact hP2 | (simp [bl, he]; done) | exact oK) ?_
          refine At.rt [] [] [hB 5] Tryd.func16 ?_
          exact ⟨by rw [hlb, if_neg h7, hfin]; simp only [he, if_false]; (try rfl), rfl, rfl⟩
end Go.Proofs

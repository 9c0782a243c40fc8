/-
  Walks of layer 21 and of its document: a segment's rows.
-/
import Derived.Test.YtacpcbobkeedbaaGreatDoorM16
import Derived.Test.YtacpcbobkeedbaaGreatDoorM7
import Derived.Test.YtacpcbobkeedbaaGreatDoorM32
import Derived.Test.YtacpcbobkeedbaaGreatDoorM37
import Derived.Test.YtacpcbobkeedbaaGreatDoorM28
import Derived.Test.YtacpcbobkeedbaaGreatDoorM29
import Derived.Test.YtacpcbobkeedbaaGreatDoorM21
import Derived.Test.YtacpcbobkeedbaaGreatDoorM12
/-
  Walks of layer 21 and of its document: a segment's rows.
-/
namespace Go.Proofs
open Go Go.Eng
set_option maxRecDepth 100000
set_option maxHeartbeats 4000000
attribute [local irreducible] Tri

theorem nm_empty {c : UInt8} {k : Int} (h : nmB c k = []) : decide (bl ⟨(nmB c k).toArray⟩ = bl ⟨#[]⟩) = true := by rw [h]; rfl
theorem nm_some {c : UInt8} {k : Int} (h : nmB c k ≠ []) : decide (bl ⟨(nmB c k).toArray⟩ = bl ⟨#[]⟩) = false := decide_eq_false (by rw [bl_of]; exact h)
theorem Tryz.imSegment_w (S : FL) (k : Int) (a : Option Addr) (cap : Nat) (w : World) (hlen : S.length ≤ 60) (hS : ∀ p, p ∈ S → p.2.length ≤ 9000) (hrow : SlOk w a (fl S)) (hk : inK .i64 k) (hT : Tryz.Pow w) :
    Tri Tryz.prog 94 [.slice a S.length cap, .int .i64 k] w [] (fun v bx hp => ∃ (g : Option Nat) (c : Nat), v = .tuple #[sv g (segF S k).1.length c, .bool (segF S k).2] ∧ bx = [] ∧ hp = [Seg.row g 9 1 (segF S k).1.length c ((segF S k).1.map str)]) := by
  obtain ⟨s, hs⟩ : ∃ s, readN S (nmB 115 k) = s := ⟨_, rfl⟩
  have hsl : s.length ≤ 9000 := by rw [← hs]; exact readF_len hS
  have fR : ∀ {bx : Bx} {hp : List Seg}, CallOb Tryz.prog ⟨w, kys [] []⟩ bx hp 132 [.slice a S.length cap, str (nmB 115 k)] (str s) := fun {_ _} w' hw' => by
    have := Tryz.imRead_w S (nmB 115 k) a cap w' (by omega) (hrow.ext hw'.ext (by simp [kys])); rwa [hs] at this
  have hN : ∀ {bx : Bx} {hp : List Seg}, CallOb Tryz.prog ⟨w, kys [] []⟩ bx hp 108 [.int .i64 k] (str (nmB 115 k)) := fun {_ _} w' hw' => Tryz.shSegment_w k w' hk (tab_ext hT hw'.ext)
  refine Tri.enter (bx := []) (hp := []) Tryz.func94 rfl (by kernel_rfl) rfl (Own.nil w) ?_
  unfold segF
  rw [hs]
  by_cases h0 : nmB 115 k = []
  · rw [if_pos h0]
    refine At.go [true] [hC (.string { data := (nmB 115 k).toArray })] rfl (by and_intros <;> first | exact hN | exact nm_empty h0 | exact oK) ?_
    refine At.nilRow 9 1 ?_
    refine At.rt [] [true] [] Tryz.func94 ?_
    exact ⟨none, 0, rfl, rfl, rfl⟩
  rw [if_neg h0]
  refine At.go [false] [hC (.string { data := (nmB 115 k).toArray }), hC (.string { data := s.toArray })] rfl (by and_intros <;> first | exact hN | exact nm_some h0 | exact fR | exact oK) ?_
  refine At.step [] rfl rfl rfl rfl rfl trivial (OpOk.call rfl (fun w' hw' => Tryz.Scan_w s w' (by omega)) ?_)
  rintro _ _ _ ⟨a1, k1, rfl, rfl, rfl⟩
  refine At.go [] [] rfl (by and_intros <;> first | exact trivial | exact oK) ?_
  rw [justB_eq]
  refine At.rt [] [true] [] Tryz.func94 ?_
  exact ⟨a1, k1, rfl, rfl, rfl⟩
end Go.Proofs

/-
  Walks of layer 22: what is looked at of a sealed segment.
-/
namespace Go.Proofs
open Go Go.Eng
set_option maxRecDepth 100000
set_option maxHeartbeats 4000000
attribute [local irreducible] Tri

/-- What a world holds: the digest's constants, the powers of ten. -/
def Tryz.Tabs (W : World) : Prop := Tryz.Sha W ∧ Tryz.Pow W
def Tryz.tabG : List Nat := [1, 0, 2]
theorem var_extM {P : Program} {m : List Nat} {w w' : World} {name : String} {cs : Array Value} {g : Nat} (hg : P.globalNamed name = some g) (h : w.var? P name = some cs) (he : Ext m w w') (hm : g ∉ m) : w'.var? P name = some cs := by
  unfold World.var? at h ⊢
  rw [hg] at h ⊢
  simp only [Option.bind_some] at h ⊢
  cases hb : w.heap[g]? with
  | none => rw [hb] at h; cases h
  | some b =>
    rw [he.block g (Array.getElem?_eq_some_iff.1 hb).1 hm, hb]
    rw [hb] at h; exact h
theorem Tryz.tabs_ext {m : List Nat} {w w' : World} (h : Tryz.Tabs w) (he : Ext m w w') (hm : ∀ k, k ∈ Tryz.tabG → k ∉ m) : Tryz.Tabs w' :=
  ⟨⟨h.1.1.ext he (fun k hk => hm k (by simp only [slB] at hk; simp at hk; subst hk; simp [Tryz.tabG])), h.1.2.ext he (fun k hk => hm k (by simp only [slB] at hk; simp at hk; subst hk; simp [Tryz.tabG]))⟩, var_extM (g := 2) (by kernel_rfl) h.2 he (hm _ (by simp [Tryz.tabG]))⟩
theorem Tryz.tabs_ext0 {w w' : World} (h : Tryz.Tabs w) (he : Ext [] w w') : Tryz.Tabs w' := Tryz.tabs_ext h he (by simp)
theorem Tryz.tabs_lt {w : World} (h : Tryz.Tabs w) : ∀ k, k ∈ Tryz.tabG → k < w.heap.size := by
  intro k hk
  simp only [Tryz.tabG, List.mem_cons, List.not_mem_nil, or_false] at hk
  rcases hk with rfl | rfl | rfl
  · exact h.1.1.lt (by decide) _ (by simp [slB])
  · exact h.1.2.lt (by decide) _ (by simp [slB])
  · have h2 := h.2
    unfold Tryz.Pow Lib.TabIs World.var? at h2
    rw [show Tryz.prog.globalNamed "internal/strconv.uint64pow10" = some 2 by kernel_rfl] at h2
    simp only [Option.bind_some] at h2
    exact Classical.byContradiction fun hc => by
      rw [Array.getElem?_eq_none (by omega)] at h2; cases h2
theorem SlOk.extR {m : List Nat} {w w' : World} {a : Option Addr} {xs : List Value} (h : SlOk w a xs) (he : Ext m w w') (hm : ∀ k, k ∈ slR a xs → k ∉ m) : SlOk w' a xs := by
  cases xs with
  | nil => exact .inl rfl
  | cons x l => exact h.ext he hm
/-- A read of what lies somewhere. -/
theorem rdS {w : World} {bx : Bx} {hp : List Seg} {b : Nat} {cs : List Value} {v : Value} (h : SlOk w (some ⟨b, 0, none⟩) cs) (i : Nat) (hv : cs[i]? = some v) : RdW ⟨w, kys [] []⟩ bx hp b i [v] := by
  obtain ⟨g, o, hg, hc⟩ := h.get (by intro e; rw [e] at hv; simp at hv)
  cases hg
  exact RdW.base1 (by simp [kys]) (by have := hc i v hv; rwa [Nat.zero_add] at this)
theorem flat_take {α : Type} {f : α → List Value} {sz : Nat} : ∀ {l : List α}, (∀ x, x ∈ l → (f x).length = sz) → ∀ k, (l.flatMap f).take (k * sz) = (l.take k).flatMap f
  | [], _, k => by simp
  | x :: l, h, 0 => by simp
  | x :: l, h, k + 1 => by
    have hx := h x (by simp)
    rw [List.flatMap_cons, List.take_succ_cons, List.flatMap_cons, Nat.add_mul, Nat.one_mul, Nat.add_comm, ← hx, List.take_length_add_append, hx, flat_take (fun y hy => h y (List.mem_cons_of_mem _ hy)) k]
theorem Tryz.sealed1_w (H : List HdB) (k n : Nat) (fv rv : Value) (c1 c3 c4 : Int) (ha : Option Addr) (hc b2 b3 bv : Nat) (w : World) (hk : k < H.length) (hcap : H.length ≤ hc) (hHl : H.length ≤ 1000000) (hx : ∀ x, x ∈ H → x.p.length ≤ 9223372036854775807 ∧ x.r.length ≤ 9223372036854775807) (hn : 1 ≤ n ∧ n ≤ 32)
    (h2 : SlOk w (some ⟨b2, 0, none⟩) [.pointer (some ⟨bv, 0, none⟩)]) (h3 : SlOk w (some ⟨b3, 0, none⟩) [.int .i64 k]) (hv : SlOk w (some ⟨bv, 0, none⟩) [fv, .int .i64 c1, .int .i64 n, .int .i64 c3, .int .i64 c4, .slice ha H.length hc, rv]) (hH : SlOk w ha (H.flatMap hdC)) (hS : Tryz.Sha w) :
    Fun Tryz.prog 134 [.pointer (some ⟨b2, 0, none⟩), .pointer (some ⟨b3, 0, none⟩)] w (.bool (chainB n (H.take (k + 1))).2) := by
  have hl : (H.take (k + 1)).length = k + 1 := by rw [List.length_take]; omega
  have fC : ∀ {bx : Bx} {hp : List Seg}, CallOb Tryz.prog ⟨w, kys [] []⟩ bx hp 84 [.slice ha ((k : Int) + 1).toNat hc, .int .i64 n] (.tuple #[str (chainB n (H.take (k + 1))).1, .int .i64 (if (chainB n (H.take (k + 1))).2 = true then 0 else 10)]) := fun {_ _} w' hw' => by
    have := Tryz.hChain_w (H.take (k + 1)) n ha hc w' (by omega) (fun x h => hx x (List.mem_of_mem_take h)) hn (by
      have h := SlOk.takeV ((k + 1) * 6) (hH.ext hw'.ext (by simp [kys]))
      rwa [show (H.flatMap hdC).take ((k + 1) * 6) = (H.take (k + 1)).flatMap hdC from flat_take (f := hdC) (sz := 6) (fun _ _ => rfl) (k + 1)] at h) (Tryz.sha_ext hS hw'.ext)
    rwa [hl, show k + 1 = ((k : Int) + 1).toNat by omega] at this
  obtain ⟨b, hb⟩ : ∃ b, (chainB n (H.take (k + 1))).2 = b := ⟨_, rfl⟩
  rw [hb] at fC ⊢
  refine Tri.enter (bx := []) (hp := []) Tryz.func134 rfl (by kernel_rfl) rfl (Own.nil w) ?_
  cases b with
  | false =>
    refine At.go [] [] rfl (by and_intros <;> first | exact rdS h2 0 rfl | exact rdS h3 0 rfl | exact rdS hv 5 rfl | exact rdS hv 2 rfl | exact fC | omega | exact oK) ?_
    refine At.qt [] [hR [.pointer (some ⟨bv, 0, none⟩)], hR [.slice ha H.length hc], hR [.int .i64 ↑k], hR [.pointer (some ⟨bv, 0, none⟩)], hR [.int .i64 ↑n], hC (.tuple { toList := [.string { data := (chainB n (List.take (k + 1) H)).fst.toArray }, .int .i64 (if false = true then 0 else 10)] })] rfl rfl (by and_intros <;> first | exact rdS h2 0 rfl | exact rdS h3 0 rfl | exact rdS hv 5 rfl | exact rdS hv 2 rfl | exact fC | omega | exact oK) ?_
    refine At.go [] [] rfl (by and_intros <;> first | exact rdS h2 0 rfl | exact rdS h3 0 rfl | exact rdS hv 5 rfl | exact rdS hv 2 rfl | exact fC | omega | exact oK) ?_
    refine At.rt [] [] [] Tryz.func134 ?_
    exact ⟨rfl, rfl, rfl⟩
  | true =>
    refine At.go [] [] rfl (by and_intros <;> first | exact rdS h2 0 rfl | exact rdS h3 0 rfl | exact rdS hv 5 rfl | exact rdS hv 2 rfl | exact fC | omega | exact oK) ?_
    refine At.qt [] [hR [.pointer (some ⟨bv, 0, none⟩)], hR [.slice ha H.length hc], hR [.int .i64 ↑k], hR [.pointer (some ⟨bv, 0, none⟩)], hR [.int .i64 ↑n], hC (.tuple { toList := [.string { data := (chainB n (List.take (k + 1) H)).fst.toArray }, .int .i64 (if true = true then 0 else 10)] })] rfl rfl (by and_intros <;> first | exact rdS h2 0 rfl | exact rdS h3 0 rfl | exact rdS hv 5 rfl | exact rdS hv 2 rfl | exact fC | omega | exact oK) ?_
    refine At.go [] [] rfl (by and_intros <;> first | exact rdS h2 0 rfl | exact rdS h3 0 rfl | exact rdS hv 5 rfl | exact rdS hv 2 rfl | exact fC | omega | exact oK) ?_
    refine At.rt [] [] [] Tryz.func134 ?_
    exact ⟨rfl, rfl, rfl⟩
theorem Tryz.sealed2_w (x : HdB) (n : Nat) (fv hv' rv : Value) (c1 c3 c4 : Int) (b5 b2 bv : Nat) (w : World)
    (h5 : SlOk w (some ⟨b5, 0, none⟩) (hdC x)) (h2 : SlOk w (some ⟨b2, 0, none⟩) [.pointer (some ⟨bv, 0, none⟩)]) (hv : SlOk w (some ⟨bv, 0, none⟩) [fv, .int .i64 c1, .int .i64 n, .int .i64 c3, .int .i64 c4, hv', rv]) :
    Fun Tryz.prog 135 [.pointer (some ⟨b5, 0, none⟩), .pointer (some ⟨b2, 0, none⟩)] w (.bool (decide (x.c = c1))) := by
  refine Tri.enter (bx := []) (hp := []) Tryz.func135 rfl (by kernel_rfl) rfl (Own.nil w) ?_
  refine At.go [] [] rfl (by and_intros <;> first | exact rdS h5 2 (v := .int .i64 x.c) rfl | exact rdS h2 0 rfl | exact rdS hv 1 rfl | exact oK) ?_
  refine At.qt [] [hR [.int .i64 x.c], hR [.pointer (some ⟨bv, 0, none⟩)], hR [.int .i64 c1]] rfl rfl (by and_intros <;> first | exact rdS h5 2 (v := .int .i64 x.c) rfl | exact rdS h2 0 rfl | exact rdS hv 1 rfl | exact oK) ?_
  refine At.go [] [] rfl (by and_intros <;> first | exact rdS h5 2 (v := .int .i64 x.c) rfl | exact rdS h2 0 rfl | exact rdS hv 1 rfl | exact oK) ?_
  refine At.rt [] [] [] Tryz.func135 ?_
  exact ⟨rfl, rfl, rfl⟩
theorem Tryz.sealed3_w (b : Bool) (b7 : Nat) (w : World) (h7 : SlOk w (some ⟨b7, 0, none⟩) [.bool b]) : Fun Tryz.prog 136 [.pointer (some ⟨b7, 0, none⟩)] w (.bool b) := by
  refine Tri.enter (bx := []) (hp := []) Tryz.func136 rfl (by kernel_rfl) rfl (Own.nil w) ?_
  refine At.go [] [hR [.bool b]] rfl (by and_intros <;> first | exact rdS h7 0 rfl | exact oK) ?_
  refine At.rt [] [] [] Tryz.func136 ?_
  exact ⟨rfl, rfl, rfl⟩
theorem Tryz.sealed4_w (x : HdB) (ra : Option Addr) (m rc b6 b5 : Nat) (w : World) (h6 : SlOk w (some ⟨b6, 0, none⟩) [.slice ra m rc]) (h5 : SlOk w (some ⟨b5, 0, none⟩) (hdC x)) :
    Fun Tryz.prog 137 [.pointer (some ⟨b6, 0, none⟩), .pointer (some ⟨b5, 0, none⟩)] w (.bool (decide ((m : Int) = x.c))) := by
  refine Tri.enter (bx := []) (hp := []) Tryz.func137 rfl (by kernel_rfl) rfl (Own.nil w) ?_
  refine At.go [] [hR [.slice ra m rc], hR [.int .i64 x.c]] rfl (by and_intros <;> first | exact rdS h6 0 rfl | exact rdS h5 2 (v := .int .i64 x.c) rfl | exact oK) ?_
  refine At.rt [] [] [] Tryz.func137 ?_
  exact ⟨rfl, rfl, rfl⟩
theorem Tryz.sealed5_w (x : HdB) (r : List (List UInt8)) (ra : Option Addr) (rc b6 b5 : Nat) (w : World) (hl : r.length ≤ 100000) (hx : ∀ x, x ∈ r → x.length ≤ 100000) (h6 : SlOk w (some ⟨b6, 0, none⟩) [.slice ra r.length rc]) (h5 : SlOk w (some ⟨b5, 0, none⟩) (hdC x)) (hr : SlOk w ra (r.map str)) :
    Fun Tryz.prog 138 [.pointer (some ⟨b6, 0, none⟩), .pointer (some ⟨b5, 0, none⟩)] w (.bool (decide ((sumL r : Int) = x.b))) := by
  have fB : ∀ {bx : Bx} {hp : List Seg}, CallOb Tryz.prog ⟨w, kys [] []⟩ bx hp 139 [.slice ra r.length rc] (.int .i64 (sumL r : Nat)) := fun {_ _} w' hw' => Tryz.vbytes_w r ra rc w' hl hx (hr.ext hw'.ext (by simp [kys]))
  refine Tri.enter (bx := []) (hp := []) Tryz.func138 rfl (by kernel_rfl) rfl (Own.nil w) ?_
  refine At.go [] [] rfl (by and_intros <;> first | exact rdS h6 0 rfl | exact rdS h5 3 (v := .int .i64 x.b) rfl | exact fB | exact oK) ?_
  refine At.qt [] [hR [.slice ra r.length rc], hC (.int .i64 ↑(sumL r)), hR [.int .i64 x.b]] rfl rfl (by and_intros <;> first | exact rdS h6 0 rfl | exact rdS h5 3 (v := .int .i64 x.b) rfl | exact fB | exact oK) ?_
  refine At.go [] [] rfl (by and_intros <;> first | exact rdS h6 0 rfl | exact rdS h5 3 (v := .int .i64 x.b) rfl | exact fB | exact oK) ?_
  refine At.rt [] [] [] Tryz.func138 ?_
  exact ⟨rfl, rfl, rfl⟩
theorem Tryz.sealed6_w (x : HdB) (r : List (List UInt8)) (n : Nat) (fv hv' rv : Value) (c1 c3 c4 : Int) (ra : Option Addr) (rc b6 b2 b5 bv : Nat) (w : World) (hl : r.length ≤ 4096) (hcap : r.length ≤ rc) (hx : ∀ x, x ∈ r → x.length ≤ 100000) (hn : 1 ≤ n ∧ n ≤ 32)
    (h6 : SlOk w (some ⟨b6, 0, none⟩) [.slice ra r.length rc]) (h2 : SlOk w (some ⟨b2, 0, none⟩) [.pointer (some ⟨bv, 0, none⟩)]) (hv : SlOk w (some ⟨bv, 0, none⟩) [fv, .int .i64 c1, .int .i64 n, .int .i64 c3, .int .i64 c4, hv', rv]) (h5 : SlOk w (some ⟨b5, 0, none⟩) (hdC x)) (hr : SlOk w ra (r.map str)) (hS : Tryz.Sha w) :
    Fun Tryz.prog 140 [.pointer (some ⟨b6, 0, none⟩), .pointer (some ⟨b2, 0, none⟩), .pointer (some ⟨b5, 0, none⟩)] w (.bool (decide (rootB n r = x.r))) := by
  have fR : ∀ {bx : Bx} {hp : List Seg}, CallOb Tryz.prog ⟨w, kys [] []⟩ bx hp 57 [.slice ra r.length rc, .int .i64 n] (.tuple #[str (rootB n r), .int .i64 0]) := fun {_ _} w' hw' => Tryz.tRoot_w n hn r ra rc w' hl hcap hx (hr.ext hw'.ext (by simp [kys])) (Tryz.sha_ext hS hw'.ext)
  refine Tri.enter (bx := []) (hp := []) Tryz.func140 rfl (by kernel_rfl) rfl (Own.nil w) ?_
  refine At.go [] [] rfl (by and_intros <;> first | exact rdS h6 0 rfl | exact rdS h2 0 rfl | exact rdS hv 2 rfl | exact rdS h5 5 (v := str x.r) rfl | exact fR | exact oK) ?_
  refine At.qt [] [hR [.slice ra r.length rc], hR [.pointer (some ⟨bv, 0, none⟩)], hR [.int .i64 ↑n], hC (.tuple { toList := [.string { data := (rootB n r).toArray }, .int .i64 0] })] rfl rfl (by and_intros <;> first | exact rdS h6 0 rfl | exact rdS h2 0 rfl | exact rdS hv 2 rfl | exact rdS h5 5 (v := str x.r) rfl | exact fR | exact oK) ?_
  refine At.go [] [hR [.string { data := x.r.toArray }]] rfl (by and_intros <;> first | exact rdS h6 0 rfl | exact rdS h2 0 rfl | exact rdS hv 2 rfl | exact rdS h5 5 (v := str x.r) rfl | exact fR | exact oK) ?_
  refine At.rt [] [] [] Tryz.func140 ?_
  exact ⟨by simp only [bl_of]; rfl, rfl, rfl⟩
end Go.Proofs

/-
  Walks of layer 22: a sealed segment.
-/
namespace Go.Proofs
open Go Go.Eng
set_option maxRecDepth 100000
set_option maxHeartbeats 4000000
attribute [local irreducible] Tri

theorem segF_mem {S : FL} {k : Int} (h : ∀ p, p ∈ S → p.2.length ≤ 9000) {x : List UInt8} (hx : x ∈ (segF S k).1) : x.length ≤ 9000 := by
  unfold segF at hx
  split at hx
  · simp at hx
  · simp only [frowsB, List.mem_map] at hx
    obtain ⟨y, hy, rfl⟩ := hx
    have h1 := (scan_len (readN S (nmB 115 k))).2.2 y hy
    have h2 := readF_len (n := nmB 115 k) h
    omega
theorem segF_few {S : FL} {k : Int} (h : ∀ p, p ∈ S → p.2.length ≤ 9000) : (segF S k).1.length ≤ 9000 := by
  unfold segF
  split
  · exact Nat.zero_le _
  · have h2 := (scan_len (readN S (nmB 115 k))).1
    have h3 := readF_len (n := nmB 115 k) h
    have h4 : (frowsB (readN S (nmB 115 k))).length = (scan (readN S (nmB 115 k))).length := by unfold frowsB; rw [List.length_map]
    simp only; omega
/-- The looks of a segment; what the first one that fails tells. -/
def Tryz.looksE (S : FL) (c1 : Int) (n : Nat) (H : List HdB) (k : Nat) (x : HdB) (r : List (List UInt8)) (b2 b3 b5 b9 b10 : Nat) : List LookE :=
  [(134, [.pointer (some ⟨b2, 0, none⟩), .pointer (some ⟨b3, 0, none⟩)], (chainB n (H.take (k + 1))).2, 10),
   (135, [.pointer (some ⟨b5, 0, none⟩), .pointer (some ⟨b2, 0, none⟩)], decide (x.c = c1), 11),
   (136, [.pointer (some ⟨b10, 0, none⟩)], (segF S k).2, 3),
   (137, [.pointer (some ⟨b9, 0, none⟩), .pointer (some ⟨b5, 0, none⟩)], decide ((r.length : Int) = x.c), 11),
   (138, [.pointer (some ⟨b9, 0, none⟩), .pointer (some ⟨b5, 0, none⟩)], decide ((sumL r : Int) = x.b), 9),
   (140, [.pointer (some ⟨b9, 0, none⟩), .pointer (some ⟨b2, 0, none⟩), .pointer (some ⟨b5, 0, none⟩)], decide (rootB n r = x.r), 9)]
theorem looks6 (b1 b3 : Bool) (p2 p4 p5 p6 : Prop) [Decidable p2] [Decidable p4] [Decidable p5] [Decidable p6] :
    (if b1 = true then if decide p2 = true then if b3 = true then if decide p4 = true then if decide p5 = true then if decide p6 = true then (0 : Int) else 9 else 9 else 11 else 3 else 11 else 10) = if b1 = false then 10 else if ¬ p2 then 11 else if b3 = false then 3 else if ¬ p4 then 11 else if ¬ p5 then 9 else if ¬ p6 then 9 else 0 := by
  cases b1 <;> by_cases h2 : p2 <;> cases b3 <;> by_cases h4 : p4 <;> by_cases h5 : p5 <;> by_cases h6 : p6 <;> simp [h2, h4, h5, h6]
theorem Tryz.segE_looks (S : FL) (c1 : Int) (n : Nat) (H : List HdB) (k : Nat) (b2 b3 b5 b9 b10 : Nat) : fstL (Tryz.looksE S c1 n H k (hdAt H k) (segF S k).1 b2 b3 b5 b9 b10) = segE S c1 n H k := by
  exact looks6 _ _ _ _ _ _
theorem WOk.free {S : Base} {bx : Bx} {hp : List Seg} {w : World} (h : WOk S bx hp w) {k : Nat} (hk : k < S.w0.heap.size) (hm : k ∉ S.mods) : k ∉ kys bx hp := fun hc => by
  rcases h.own k hc with h | h
  · exact hm h
  · omega
theorem Tryz.sealed_w (S : FL) (H : List HdB) (R : List (List UInt8)) (k n : Nat) (c1 c3 c4 : Int) (fa ha : Option Addr) (fc hc : Nat) (g : Option Nat) (c bv : Nat) (w : World) (hlen : S.length ≤ 60) (hSb : ∀ p, p ∈ S → p.2.length ≤ 9000) (hk : k < H.length) (hcap : H.length ≤ hc) (hHl : H.length ≤ 9000)
    (hx : ∀ x, x ∈ H → x.p.length ≤ 9223372036854775807 ∧ x.r.length ≤ 9223372036854775807) (hn : 1 ≤ n ∧ n ≤ 32) (hRl : R.length ≤ 100000000) (hfr : SlOk w fa (fl S)) (hH : SlOk w ha (H.flatMap hdC)) (hT : Tryz.Tabs w)
    (hown : Own [(bv, 104, [.slice fa S.length fc, .int .i64 c1, .int .i64 n, .int .i64 c3, .int .i64 c4, .slice ha H.length hc, sv g R.length c])] [Seg.row g 9 1 R.length c (R.map str)] w)
    (hm1 : ∀ q, q ∈ slR fa (fl S) → q ∉ kys [(bv, 104, [])] [Seg.row g 9 1 R.length c (R.map str)]) (hm2 : ∀ q, q ∈ slR ha (H.flatMap hdC) → q ∉ kys [(bv, 104, [])] [Seg.row g 9 1 R.length c (R.map str)]) (hm3 : ∀ q, q ∈ Tryz.tabG → q ∉ kys [(bv, 104, [])] [Seg.row g 9 1 R.length c (R.map str)]) :
    Tri Tryz.prog 93 [.pointer (some ⟨bv, 0, none⟩), .int .i64 k] w (kys [(bv, 104, [.slice fa S.length fc, .int .i64 c1, .int .i64 n, .int .i64 c3, .int .i64 c4, .slice ha H.length hc, sv g R.length c])] [Seg.row g 9 1 R.length c (R.map str)]) (fun v bx hp => ∃ (g' : Option Nat) (c' : Nat), v = .int .i64 (segE S c1 n H k) ∧ bx = [(bv, 104, [.slice fa S.length fc, .int .i64 c1, .int .i64 n, .int .i64 c3, .int .i64 c4, .slice ha H.length hc, sv g' (R ++ (segF S k).1).length c'])] ∧ hp = [Seg.row g' 9 1 (R ++ (segF S k).1).length c' ((R ++ (segF S k).1).map str)]) := by
  have hxk := hdAt_get hk
  obtain ⟨x, hxd⟩ : ∃ x, hdAt H k = x := ⟨_, rfl⟩
  rw [hxd] at hxk
  obtain ⟨gh, oh, rfl, hch⟩ := hH.get (by intro e; have := flat_get (f := hdC) (sz := 6) (fun _ _ => rfl) hxk 0 _ rfl; rw [e] at this; cases this)
  refine Tri.enter Tryz.func93 rfl (by kernel_rfl) rfl hown ?_
  have hgh : gh ∉ kys [(bv, 104, [])] [Seg.row g 9 1 R.length c (R.map str)] := hm2 gh (mem_slR (by intro e; have := flat_get (f := hdC) (sz := 6) (fun _ _ => rfl) hxk 0 _ rfl; rw [e] at this; cases this))
  have rE : ∀ {bx : Bx} {hp : List Seg}, RdW ⟨w, kys [(bv, 104, [.slice fa S.length fc, .int .i64 c1, .int .i64 n, .int .i64 c3, .int .i64 c4, .slice (some ⟨gh, oh, none⟩) H.length hc, sv g R.length c])] [Seg.row g 9 1 R.length c (R.map str)]⟩ bx hp gh (oh + (k : Int).toNat * 6) [.int .i64 x.i, .int .i64 x.f, .int .i64 x.c, .int .i64 x.b, str x.p, str x.r] := fun {_ _} => RdW.base hgh fun j u hu => by
    rw [show oh + (k : Int).toNat * 6 + j = oh + (k * 6 + j) by omega]
    exact hch _ u (flat_get (f := hdC) (sz := 6) (fun _ _ => rfl) hxk j u hu)
  have hkin : inK .i64 (k : Int) := by simp only [inK]; omega
  refine At.go [] [] rfl (by and_intros <;> first | exact rE | exact oK) ?_
  refine At.bo fun b2 hb2 => ?_
  refine At.bo fun b3 hb3 => ?_
  refine At.go [] [] rfl (by and_intros <;> first | exact rE | exact oK) ?_
  refine At.dr 9 ?_
  refine AtH.readsK [true, true, true] [true] [0, 1, 2, 3, 4, 5, 6] [hB 1, hB 2, hB 0, hR [.int .i64 x.i, .int .i64 x.f, .int .i64 x.c, .int .i64 x.b, .string { data := x.p.toArray }, .string { data := x.r.toArray }]] rfl rfl (by and_intros <;> first | exact rE | exact oK) rfl rfl (fuel := 2) ?_
  refine AtH.f1 7 rfl (OpOk.alloc rfl rfl fun b5 hb5 => ⟨fun w hw => hw.selK [false, true, true, true] [true], ?_⟩)
  refine AtH.f1 8 rfl (OpOk.one true [] [hB 0] rfl (by first | exact rE | exact oK) ⟨fun w hw => hw.selK [false, true, true, true] [true], ?_⟩)
  refine AtH.dn ?_
  refine At.gn 2 [] [] rfl (by and_intros <;> first | exact rE | exact oK) ?_
  refine At.cutS (ι := Nat × Nat × Option Nat × Nat) ⟨0, [0, 1, 1, 1], []⟩ (fun e => [(2, .pointer (some ⟨b2, 0, none⟩)), (3, .pointer (some ⟨b3, 0, none⟩)), (5, .pointer (some ⟨b5, 0, none⟩)), (6, .pointer (some ⟨e.1, 0, none⟩)), (7, .pointer (some ⟨e.2.1, 0, none⟩))])
    (fun e => [(e.2.1, 4, [.bool (segF S k).2]), (e.1, 22, [sv e.2.2.1 (segF S k).1.length e.2.2.2]), (b5, 46, [.int .i64 x.i, .int .i64 x.f, .int .i64 x.c, .int .i64 x.b, str x.p, str x.r]), (b3, 3, [.int .i64 k]), (b2, 102, [.pointer (some ⟨bv, 0, none⟩)]), (bv, 104, [.slice fa S.length fc, .int .i64 c1, .int .i64 n, .int .i64 c3, .int .i64 c4, .slice (some ⟨gh, oh, none⟩) H.length hc, sv g R.length c])])
    (fun e => [Seg.row e.2.2.1 9 1 (segF S k).1.length e.2.2.2 ((segF S k).1.map str), Seg.row g 9 1 R.length c (R.map str)]) ?_ fun hk0 => ?_
  rotate_left
  · refine At.dr 13 ?_
    refine AtH.readsK [false, true, true, true] [false] [0, 1, 2, 3, 4] [hB 1, hB 2, hB 0] rfl rfl (by and_intros <;> first | exact trivial | exact oK) rfl rfl (fuel := 8) ?_
    refine AtH.fork3 5 9 10 (by kernel_rfl) rfl rfl rfl rfl rfl rfl rfl rfl rfl (OpOk.call rfl (fun w' hw' => Tryz.imSegment_w S k fa fc w' hlen hSb (SlOk.extR hfr hw'.ext hm1) hkin (Tryz.tabs_ext hT hw'.ext hm3).2) ?_) (OpOk.alloc rfl rfl fun b9 hb9 => ⟨fun w hw => hw.selK [false, false, true, true, true] [], ?_⟩) (OpOk.alloc rfl rfl fun b10 hb10 => ⟨fun w hw => hw.selK [false, false, true, true, true] [], ?_⟩)
    · rintro _ _ _ ⟨gs, cs, rfl, rfl, rfl⟩
      refine ⟨fun w hw => hw.selK [false, true, true, true] [false], ?_⟩
      refine AtH.reK [6, 7, 8] [] rfl oK rfl rfl (fuel := 4) ?_
      refine AtH.fork2 9 10 (by kernel_rfl) rfl rfl rfl rfl rfl rfl (OpOk.alloc rfl rfl fun b9 hb9 => ⟨fun w hw => hw.selK [false, false, true, true, true] [false], ?_⟩) (OpOk.alloc rfl rfl fun b10 hb10 => ⟨fun w hw => hw.selK [false, false, true, true, true] [false], ?_⟩)
      · refine AtH.f1 10 rfl (OpOk.alloc rfl rfl fun b10 hb10 => ⟨fun w hw => hw.selK [false, false, false, true, true, true] [false], ?_⟩)
        refine AtH.f1 11 rfl (OpOk.one true [] [hB 1] rfl ⟨rfl, rfl⟩ ⟨fun w hw => hw.selK [false, false, false, true, true, true] [false], ?_⟩)
        refine AtH.f1 12 rfl (OpOk.one true [] [hB 0] rfl ⟨rfl, rfl⟩ ⟨fun w hw => hw.selK [false, false, false, true, true, true] [false], ?_⟩)
        refine AtH.dn ?_
        refine At.gn 2 [] [] rfl (by and_intros <;> first | exact trivial | exact oK) ?_
        exact At.weak (hk0 (b9, b10, gs, cs)) sB
      · refine AtH.f1 9 rfl (OpOk.alloc rfl rfl fun b9 hb9 => ⟨fun w hw => hw.selK [false, false, false, true, true, true] [false], ?_⟩)
        refine AtH.f1 11 rfl (OpOk.one true [] [hB 0] rfl ⟨rfl, rfl⟩ ⟨fun w hw => hw.selK [false, false, false, true, true, true] [false], ?_⟩)
        refine AtH.f1 12 rfl (OpOk.one true [] [hB 1] rfl ⟨rfl, rfl⟩ ⟨fun w hw => hw.selK [false, false, false, true, true, true] [false], ?_⟩)
        refine AtH.dn ?_
        refine At.order [1] [] rfl rfl ?_
        refine At.gn 2 [] [] rfl (by and_intros <;> first | exact trivial | exact oK) ?_
        exact At.weak (hk0 (b9, b10, gs, cs)) sB
    · refine AtH.fork2 5 10 (by kernel_rfl) rfl rfl rfl rfl rfl rfl (OpOk.call rfl (fun w' hw' => Tryz.imSegment_w S k fa fc w' hlen hSb (SlOk.extR hfr hw'.ext hm1) hkin (Tryz.tabs_ext hT hw'.ext hm3).2) ?_) (OpOk.alloc rfl rfl fun b10 hb10 => ⟨fun w hw => hw.selK [false, false, false, true, true, true] [], ?_⟩)
      · rintro _ _ _ ⟨gs, cs, rfl, rfl, rfl⟩
        refine ⟨fun w hw => hw.selK [false, false, true, true, true] [false], ?_⟩
        refine AtH.reK [6, 7, 8] [] rfl oK rfl rfl (fuel := 3) ?_
        refine AtH.f1 10 rfl (OpOk.alloc rfl rfl fun b10 hb10 => ⟨fun w hw => hw.selK [false, false, false, true, true, true] [false], ?_⟩)
        refine AtH.f1 11 rfl (OpOk.one true [] [hB 1] rfl ⟨rfl, rfl⟩ ⟨fun w hw => hw.selK [false, false, false, true, true, true] [false], ?_⟩)
        refine AtH.f1 12 rfl (OpOk.one true [] [hB 0] rfl ⟨rfl, rfl⟩ ⟨fun w hw => hw.selK [false, false, false, true, true, true] [false], ?_⟩)
        refine AtH.dn ?_
        refine At.gn 2 [] [] rfl (by and_intros <;> first | exact trivial | exact oK) ?_
        exact At.weak (hk0 (b9, b10, gs, cs)) sB
      · refine AtH.f1 5 rfl (OpOk.call rfl (fun w' hw' => Tryz.imSegment_w S k fa fc w' hlen hSb (SlOk.extR hfr hw'.ext hm1) hkin (Tryz.tabs_ext hT hw'.ext hm3).2) ?_)
        rintro _ _ _ ⟨gs, cs, rfl, rfl, rfl⟩
        refine ⟨fun w hw => hw.selK [false, false, false, true, true, true] [false], ?_⟩
        refine AtH.reK [6, 7, 8] [] rfl oK rfl rfl (fuel := 2) ?_
        refine AtH.f1 11 rfl (OpOk.one true [] [hB 1] rfl ⟨rfl, rfl⟩ ⟨fun w hw => hw.selK [false, false, false, true, true, true] [false], ?_⟩)
        refine AtH.f1 12 rfl (OpOk.one true [] [hB 0] rfl ⟨rfl, rfl⟩ ⟨fun w hw => hw.selK [false, false, false, true, true, true] [false], ?_⟩)
        refine AtH.dn ?_
        refine At.gn 2 [] [] rfl (by and_intros <;> first | exact trivial | exact oK) ?_
        exact At.weak (hk0 (b9, b10, gs, cs)) sB
    · refine AtH.fork2 5 9 (by kernel_rfl) rfl rfl rfl rfl rfl rfl (OpOk.call rfl (fun w' hw' => Tryz.imSegment_w S k fa fc w' hlen hSb (SlOk.extR hfr hw'.ext hm1) hkin (Tryz.tabs_ext hT hw'.ext hm3).2) ?_) (OpOk.alloc rfl rfl fun b9 hb9 => ⟨fun w hw => hw.selK [false, false, false, true, true, true] [], ?_⟩)
      · rintro _ _ _ ⟨gs, cs, rfl, rfl, rfl⟩
        refine ⟨fun w hw => hw.selK [false, false, true, true, true] [false], ?_⟩
        refine AtH.reK [6, 7, 8] [] rfl oK rfl rfl (fuel := 3) ?_
        refine AtH.f1 9 rfl (OpOk.alloc rfl rfl fun b9 hb9 => ⟨fun w hw => hw.selK [false, false, false, true, true, true] [false], ?_⟩)
        refine AtH.f1 11 rfl (OpOk.one true [] [hB 0] rfl ⟨rfl, rfl⟩ ⟨fun w hw => hw.selK [false, false, false, true, true, true] [false], ?_⟩)
        refine AtH.f1 12 rfl (OpOk.one true [] [hB 1] rfl ⟨rfl, rfl⟩ ⟨fun w hw => hw.selK [false, false, false, true, true, true] [false], ?_⟩)
        refine AtH.dn ?_
        refine At.order [1] [] rfl rfl ?_
        refine At.gn 2 [] [] rfl (by and_intros <;> first | exact trivial | exact oK) ?_
        exact At.weak (hk0 (b9, b10, gs, cs)) sB
      · refine AtH.f1 5 rfl (OpOk.call rfl (fun w' hw' => Tryz.imSegment_w S k fa fc w' hlen hSb (SlOk.extR hfr hw'.ext hm1) hkin (Tryz.tabs_ext hT hw'.ext hm3).2) ?_)
        rintro _ _ _ ⟨gs, cs, rfl, rfl, rfl⟩
        refine ⟨fun w hw => hw.selK [false, false, false, true, true, true] [false], ?_⟩
        refine AtH.reK [6, 7, 8] [] rfl oK rfl rfl (fuel := 2) ?_
        refine AtH.f1 11 rfl (OpOk.one true [] [hB 0] rfl ⟨rfl, rfl⟩ ⟨fun w hw => hw.selK [false, false, false, true, true, true] [false], ?_⟩)
        refine AtH.f1 12 rfl (OpOk.one true [] [hB 1] rfl ⟨rfl, rfl⟩ ⟨fun w hw => hw.selK [false, false, false, true, true, true] [false], ?_⟩)
        refine AtH.dn ?_
        refine At.order [1] [] rfl rfl ?_
        refine At.gn 2 [] [] rfl (by and_intros <;> first | exact trivial | exact oK) ?_
        exact At.weak (hk0 (b9, b10, gs, cs)) sB
  rintro ⟨b9, b10, gs, cs⟩
  dsimp only
  have hsf := segF_few (k := k) hSb
  have hsm := fun y (h : y ∈ (segF S k).1) => segF_mem (k := k) hSb h
  have hst := Tryz.segE_looks S c1 n H k b2 b3 b5 b9 b10
  rw [hxd] at hst
  have hfew := seg_few (_S := S) (n := n) hk
  rw [hxd] at hfew
  obtain ⟨r, hr⟩ : ∃ r, (segF S k).1 = r := ⟨_, rfl⟩
  rw [hr] at hsf hsm hst ⊢
  refine At.rowCap 0 rfl fun hrc => ?_
  refine At.go [] [] rfl (by and_intros <;> first | exact trivial | exact oK) ?_
  refine At.step [] rfl rfl rfl rfl rfl trivial (OpOk.buildSlice rfl rfl rfl rfl rfl rfl rfl (fun bs hbs => ?_))
  have fF : ∀ {bx : Bx} {hp : List Seg} (mb : List Bool), nth bx 0 = some (bs, 159, (Tryz.looksE S c1 n H k x r b2 b3 b5 b9 b10).flatMap lookC) → nth bx 1 = some (b10, 4, [.bool (segF S k).2]) → nth bx 2 = some (b9, 22, [sv gs r.length cs]) → nth bx 3 = some (b5, 46, hdC x) → nth bx 4 = some (b3, 3, [.int .i64 k]) → nth bx 5 = some (b2, 102, [.pointer (some ⟨bv, 0, none⟩)]) → nth bx 6 = some (bv, 104, [.slice fa S.length fc, .int .i64 c1, .int .i64 n, .int .i64 c3, .int .i64 c4, .slice (some ⟨gh, oh, none⟩) H.length hc, sv g R.length c]) → nth hp 0 = some (Seg.row gs 9 1 r.length cs (r.map str)) →
      CallOb Tryz.prog ⟨w, kys [(bv, 104, [.slice fa S.length fc, .int .i64 c1, .int .i64 n, .int .i64 c3, .int .i64 c4, .slice (some ⟨gh, oh, none⟩) H.length hc, sv g R.length c])] [Seg.row g 9 1 R.length c (R.map str)]⟩ bx hp 95 [.slice (some ⟨bs, 0, none⟩) 6 6] (.int .i64 (segE S c1 n H k)) := fun {_ _} _ q0 q1 q2 q3 q4 q5 q6 p0 w' hw' => by
    rw [← hst]
    refine Tryz.first_w (Tryz.looksE S c1 n H k x r b2 b3 b5 b9 b10) (some ⟨bs, 0, none⟩) 6 w' (by show 6 ≤ 1000; decide) (SlOk.blk (hw'.bx _ (nth_mem q0))) ?_
    intro i y hy hok w2 he
    have z2 := (SlOk.blk (hw'.bx _ (nth_mem q5))).ext he (by simp)
    have z5 := (SlOk.blk (hw'.bx _ (nth_mem q3))).ext he (by simp)
    have zv := (SlOk.blk (hw'.bx _ (nth_mem q6))).ext he (by simp)
    have z9 := (SlOk.blk (hw'.bx _ (nth_mem q2))).ext he (by simp)
    have zr := (SlOk.row (hw'.hp _ (nth_mem p0))).ext he (by simp)
    have zt := Tryz.tabs_ext0 (Tryz.tabs_ext hT hw'.ext hm3) he
    rcases i with _ | _ | _ | _ | _ | _ | i
    · cases hy
      exact Tryz.sealed1_w H k n _ _ c1 c3 c4 _ hc b2 b3 bv w2 hk hcap (by omega) hx hn z2 ((SlOk.blk (hw'.bx _ (nth_mem q4))).ext he (by simp)) zv ((SlOk.extR hH hw'.ext hm2).ext he (by simp)) zt.1
    · cases hy
      exact Tryz.sealed2_w x n _ _ _ c1 c3 c4 b5 b2 bv w2 z5 z2 zv
    · cases hy
      exact Tryz.sealed3_w _ b10 w2 ((SlOk.blk (hw'.bx _ (nth_mem q1))).ext he (by simp))
    · cases hy
      exact Tryz.sealed4_w x _ _ cs b9 b5 w2 z9 z5
    · cases hy
      exact Tryz.sealed5_w x r _ cs b9 b5 w2 (by omega) (fun y h => by have := hsm y h; omega) z9 z5 zr
    · cases hy
      have e1 := hok 0 _ (by omega) rfl
      have e4 := hok 3 _ (by omega) rfl
      have e5 := hfew e1
      have e6 : ((r.length : Int) = x.c) := of_decide_eq_true e4
      exact Tryz.sealed6_w x r n _ _ _ c1 c3 c4 _ cs b9 b2 b5 bv w2 (by omega) hrc (fun y h => by have := hsm y h; omega) hn z9 z2 zv z5 zr zt.1
    · exact absurd (List.getElem?_eq_some_iff.1 hy).1 (by simp [Tryz.looksE])
  refine At.gn 3 [] [hC (.int .i64 (segE S c1 n H k))] rfl (by and_intros <;> first | exact fF [] rfl rfl rfl rfl rfl rfl rfl rfl | exact oK) ?_
  refine At.dr 10 ?_
  refine AtH.readsK [false, false, true, false, false, true, false] [false, false] [0, 1, 2, 3, 5] [hB 1, hB 1, hB 0] rfl rfl oK rfl rfl (fuel := 5) ?_
  refine AtH.f1 4 rfl (OpOk.one true [] [hB 6] rfl rfl ⟨fun w hw => hw.selK [false, false, true, false, false, true, false] [false, false], ?_⟩)
  refine AtH.f1 6 rfl (OpOk.appendS (m := r.length) 1 1 16 (r.map str) rfl rfl rfl rfl rfl rfl rfl rfl (fun w' hw' => SlOk.row (hw'.hp _ (nth_mem (i := 0) rfl))) (by simp) (fun v hv => by obtain ⟨y, -, rfl⟩ := List.mem_map.1 hv; rfl) (by omega) (by omega) fun a2 c2 => ⟨fun w hw => hw.selK [false, false, true, false, false, true, false] [false, false], ?_⟩)
  refine AtH.reK [7, 8] [] rfl oK rfl rfl (fuel := 1) ?_
  refine AtH.f1 9 rfl (OpOk.one true [] [hB 6] rfl ⟨rfl, rfl⟩ ⟨fun w hw => hw.selK [false, false, true, false, false, true, false] [false, false], ?_⟩)
  refine AtH.dn ?_
  rw [show R.length + r.length = (R ++ r).length by simp, show R.map str ++ r.map str = (R ++ r).map str by simp]
  refine At.go [] [] rfl (by and_intros <;> first | exact trivial | exact oK) ?_
  refine At.rt [false, false, false, false, false, false, true] [false, true] [] Tryz.func93 ?_
  exact ⟨a2, c2, rfl, rfl, rfl⟩
end Go.Proofs

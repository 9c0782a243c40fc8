/-
  Walks of layer 2's document: primes, constants.
-/
import Derived.Test.YtibdpdlghibijaaGreatDoorMT21
import Derived.Test.YtibdpdlghibijaaGreatDoorMT16
import Derived.Test.YtibdpdlghibijaaGreatDoorMT7
import Derived.Test.YtibdpdlghibijaaGreatDoorMT18
import Derived.Test.YtibdpdlghibijaaGreatDoorMT11
import Derived.Test.YtibdpdlghibijaaGreatDoorMT2
import Derived.Test.YtibdpdlghibijaaGreatDoorMT17
import Derived.Test.YtibdpdlghibijaaGreatDoorMT1
import Derived.Test.YtibdpdlghibijaaGreatDoorMT20
import Derived.Test.YtibdpdlghibijaaGreatDoorMT12
/-
  Walks of layer 2's document: primes, constants.
-/
namespace Go.Proofs
open Go Go.Eng
set_option maxRecDepth 100000
set_option maxHeartbeats 4000000
attribute [local irreducible] Tri
attribute [local irreducible] fillW

end Go.Proofs

/-
  Walks of layer 2's document: words turned; the digest of bytes.
-/
namespace Go.Proofs
open Go Go.Eng
set_option maxRecDepth 100000
set_option maxHeartbeats 4000000
attribute [local irreducible] Tri
attribute [local irreducible] fillW

/-- An array of words, of which one is on its way. -/
def fillP (W : List (BitVec 32)) (n i : Nat) (v : Value) : List Value := w32s (W.take i) ++ v :: List.replicate (n - 1 - i) (v32 0)
attribute [local irreducible] fillP
end Go.Proofs

/-
  Walks of layer 3 and of its document: hashes of leaves and nodes, sides, roots.
-/
namespace Go.Proofs
open Go Go.Eng
set_option maxRecDepth 100000
set_option maxHeartbeats 4000000
attribute [local irreducible] Tri

theorem Tryz.thash_w (s : List UInt8) (n : Nat) (w : World) (hs : s.length ≤ 1000000) (hn : 1 ≤ n ∧ n ≤ 32) (hS : Tryz.Sha w) : Fun Tryz.prog 109 [str s, .int .i64 n] w (str (cutH n s)) := by
  have fC : ∀ {bx : Bx} {hp : List Seg}, CallOb Tryz.prog ⟨w, kys [] []⟩ bx hp 101 [str s, .int .i64 n] (.tuple #[str (cutH n s), .int .i64 0]) := fun {_ _} w' hw' => Tryz.Cut_w s n w' hs hn.1 hn.2 (Tryz.sha_ext hS hw'.ext)
  refine Tri.enter (bx := []) (hp := []) Tryz.func109 rfl (by kernel_rfl) rfl (Own.nil w) ?_
  refine At.go [] [hC (.tuple { toList := [.string { data := (cutH n s).toArray }, .int .i64 0] })] rfl (by and_intros <;> first | exact fC | exact oK) ?_
  refine At.rt [] [] [] Tryz.func109 ?_
  exact ⟨rfl, rfl, rfl⟩
theorem Tryz.tLeaf_w (s : List UInt8) (n : Nat) (w : World) (hs : s.length ≤ 100000) (hn : 1 ≤ n ∧ n ≤ 32) (hS : Tryz.Sha w) : Fun Tryz.prog 110 [str s, .int .i64 n] w (str (cutH n (0 :: s))) := by
  have fC : ∀ {bx : Bx} {hp : List Seg}, CallOb Tryz.prog ⟨w, kys [] []⟩ bx hp 109 [str (0 :: s), .int .i64 n] (str (cutH n (0 :: s))) := fun {_ _} w' hw' => Tryz.thash_w (0 :: s) n w' (by simp; omega) hn (Tryz.sha_ext hS hw'.ext)
  refine Tri.enter (bx := []) (hp := []) Tryz.func110 rfl (by kernel_rfl) rfl (Own.nil w) ?_
  refine At.go [] [hC (.string { data := (cutH n (0 :: s)).toArray })] rfl (by and_intros <;> first | exact fC | (simp [bl_of]; omega) | exact oK) ?_
  refine At.rt [] [] [] Tryz.func110 ?_
  exact ⟨rfl, rfl, rfl⟩
theorem Tryz.tNode_w (a b : List UInt8) (n : Nat) (w : World) (ha : a.length ≤ 100000) (hb : b.length ≤ 100000) (hn : 1 ≤ n ∧ n ≤ 32) (hS : Tryz.Sha w) : Fun Tryz.prog 112 [str a, str b, .int .i64 n] w (str (cutH n (1 :: (a ++ b)))) := by
  have fC : ∀ {bx : Bx} {hp : List Seg}, CallOb Tryz.prog ⟨w, kys [] []⟩ bx hp 109 [str (1 :: (a ++ b)), .int .i64 n] (str (cutH n (1 :: (a ++ b)))) := fun {_ _} w' hw' => Tryz.thash_w (1 :: (a ++ b)) n w' (by simp; omega) hn (Tryz.sha_ext hS hw'.ext)
  refine Tri.enter (bx := []) (hp := []) Tryz.func112 rfl (by kernel_rfl) rfl (Own.nil w) ?_
  refine At.go [] [hC (.string { data := (cutH n (1 :: (a ++ b))).toArray })] rfl (by and_intros <;> first | exact fC | (simp [bl_of]; omega) | exact oK) ?_
  refine At.rt [] [] [] Tryz.func112 ?_
  exact ⟨rfl, rfl, rfl⟩
theorem Tryz.tSplit_w (c : Nat) (w : World) (hc : c ≤ 1000000) : Fun Tryz.prog 131 [.int .i64 c] w (.int .i64 (splN c)) := by
  refine Tri.enter (bx := []) (hp := []) Tryz.func131 rfl (by kernel_rfl) rfl (Own.nil w) ?_
  unfold splN
  by_cases h2 : c < 2
  · rw [if_pos h2]
    refine At.go [true] [] rfl (by and_intros <;> first | exact decide_eq_true (by omega) | exact oK) ?_
    refine At.rt [] [] [] Tryz.func131 ?_
    exact ⟨rfl, rfl, rfl⟩
  rw [if_neg h2]
  have h62 : (2 : Nat) ^ 62 = 4611686018427387904 := by decide
  refine At.go [false] [] rfl (by and_intros <;> first | exact decide_eq_false (by omega) | exact oK) ?_
  refine At.loop (env0 := [(0, .int .i64 ↑c), (3, .int .i64 1)]) (fun m_ env bx hp => ∃ (f : Nat) (k : Nat), m_ = f + 1 ∧ (splF c f k = splF c 62 1) ∧ (k < c) ∧ (c ≤ k * 2 ^ f) ∧ env = [(0, .int .i64 ↑c), (3, .int .i64 k)] ∧ bx = [] ∧ hp = []) rfl
    ⟨62, 1, rfl, (rfl), (by omega), (by rw [h62]; omega), rfl, rfl, rfl⟩ sB ?_
  rintro m_ env bx hp ⟨f, k, rfl, hk, hkc, hcf, rfl, rfl, rfl⟩ ih
  by_cases hlt : 2 * k < c
  · cases f with
    | zero => omega
    | succ f =>
      have hs : splF c (f + 1) k = splF c f (2 * k) := by rw [splF, if_pos hlt]
      refine At.go [true] [] rfl (by and_intros <;> first | exact decide_eq_true (by omega) | exact oK) ?_
      rw [show (k : Int) * 2 = ((2 * k : Nat) : Int) by omega]
      exact At.weak (ih _ _ _ _ (by omega) ⟨f, 2 * k, rfl, by rw [← hs, hk], by omega, by rw [Nat.pow_succ] at hcf; rw [Nat.mul_comm 2 k, Nat.mul_assoc, Nat.mul_comm 2]; exact hcf, rfl, rfl, rfl⟩) sB
  · have hs : splF c f k = k := by
      cases f with
      | zero => rfl
      | succ f => rw [splF, if_neg hlt]
    rw [← hk, hs]
    refine At.go [false] [] rfl (by and_intros <;> first | exact decide_eq_false (by omega) | exact oK) ?_
    refine At.rt [] [] [] Tryz.func131 ?_
    exact ⟨rfl, rfl, rfl⟩
theorem Tryz.sides_w (c : Nat) (g o cap : Nat) (w : World) (h2 : 2 ≤ c) (hc : c ≤ 1000000) (hcap : c ≤ cap) : Fun Tryz.prog 111 [.slice (some ⟨g, o, none⟩) c cap] w (.tuple #[.slice (some ⟨g, o, none⟩) (splN c) (splN c), .slice (some ⟨g, o + splN c, none⟩) (c - splN c) (cap - splN c)]) := by
  have fS : ∀ {S : Base} {bx : Bx} {hp : List Seg}, CallOb Tryz.prog S bx hp 131 [.int .i64 c] (.int .i64 (splN c)) := fun {_ _ _} w' _ => Tryz.tSplit_w c w' hc
  have hs := splN_in h2
  obtain ⟨k, hk⟩ : ∃ k, splN c = k := ⟨_, rfl⟩
  rw [hk] at fS hs ⊢
  refine Tri.enter (bx := []) (hp := []) Tryz.func111 rfl (by kernel_rfl) rfl (Own.nil w) ?_
  refine At.go [] [hC (.int .i64 ↑k)] rfl (by and_intros <;> first | exact fS | omega | exact oK) ?_
  refine At.dr 9 ?_
  refine AtD.pu [0, 1, 2, 4, 5] 4 rfl (by and_intros <;> first | exact fS | omega | exact oK) ?_
  refine AtD.pu [6] 3 rfl (by and_intros <;> first | exact fS | omega | exact oK) ?_
  refine AtD.f1r 3 (OpOk.slice3 (c := cap) k rfl rfl rfl rfl rfl rfl (by omega) ?_)
  refine AtD.lx [7, 8] 0 [] [] rfl trivial ?_
  refine AtD.dn ?_
  refine At.go [] [] rfl (by and_intros <;> first | exact trivial | exact oK) ?_
  refine At.rt [] [] [] Tryz.func111 ?_
  exact ⟨by simp only [tupV, Nat.mul_one, Int.toNat_natCast], rfl, rfl⟩
/-- Rows of a slice, and a part's. -/
theorem SlOk.rowsT {w : World} {a : Option Addr} {l : List (List UInt8)} (k : Nat) (h : SlOk w a (l.map str)) : SlOk w a ((l.take k).map str) := by
  rw [List.map_take]; exact SlOk.takeV k h
theorem SlOk.rowsD {w : World} {g o : Nat} {l : List (List UInt8)} (k : Nat) (h : SlOk w (some ⟨g, o, none⟩) (l.map str)) : SlOk w (some ⟨g, o + k, none⟩) ((l.drop k).map str) := by
  rw [List.map_drop]; exact SlOk.dropV k h
theorem RdW.rowS {w : World} {S : Base} {bx : Bx} {hp : List Seg} {g o i off : Nat} {l : List (List UInt8)} {x : List UInt8} (hc : ∀ j u, (l.map str)[j]? = some u → w.cell? ⟨g, o + j, none⟩ = some u) (hw : S.w0 = w) (hm : g ∉ S.mods) (h : l[i]? = some x) (ho : off = o + i) : RdW S bx hp g off [str x] := by
  subst ho hw
  exact RdW.base1 hm (hc i _ (by rw [List.getElem?_map, h]; rfl))
theorem Tryz.troot_w (n : Nat) (hn : 1 ≤ n ∧ n ≤ 32) : ∀ (N : Nat) (l : List (List UInt8)) (a : Option Addr) (cap : Nat) (w : World), l.length ≤ N → l.length ≤ 1000000 → l.length ≤ cap → (∀ x, x ∈ l → x.length ≤ 100000) → SlOk w a (l.map str) → Tryz.Sha w →
    Fun Tryz.prog 78 [.slice a l.length cap, .int .i64 n] w (str (rootB n l)) := by
  intro N
  induction N with
  | zero =>
    intro l a cap w hN hl hcap hx hr hS
    obtain rfl : l = [] := List.length_eq_zero_iff.1 (by omega)
    have fH : ∀ {bx : Bx} {hp : List Seg}, CallOb Tryz.prog ⟨w, kys [] []⟩ bx hp 109 [str [], .int .i64 n] (str (cutH n [])) := fun {_ _} w' hw' => Tryz.thash_w [] n w' (by decide) hn (Tryz.sha_ext hS hw'.ext)
    refine Tri.enter (bx := []) (hp := []) Tryz.func78 rfl (by kernel_rfl) rfl (Own.nil w) ?_
    rw [rootB_nil]
    refine At.go [true] [hC (.string { data := (cutH n []).toArray })] rfl (by and_intros <;> first | exact fH | exact rfl | exact oK) ?_
    refine At.rt [] [] [] Tryz.func78 ?_
    exact ⟨rfl, rfl, rfl⟩
  | succ N ih =>
    intro l a cap w hN hl hcap hx hr hS
    by_cases h0 : l.length = 0
    · exact ih l a cap w (by omega) hl hcap hx hr hS
    obtain ⟨g, o, rfl, hc⟩ := hr.get (by intro e; have := congrArg List.length e; rw [List.length_map] at this; exact h0 this)
    by_cases h1 : l.length = 1
    · obtain ⟨x, rfl⟩ := List.length_eq_one_iff.1 h1
      have r : ∀ {bx : Bx} {hp : List Seg}, RdW ⟨w, kys [] []⟩ bx hp g (o + Int.toNat 0 * 1) [str x] := fun {_ _} => RdW.rowS hc rfl (by simp [kys]) (i := 0) rfl rfl
      have fL : ∀ {bx : Bx} {hp : List Seg}, CallOb Tryz.prog ⟨w, kys [] []⟩ bx hp 110 [str x, .int .i64 n] (str (cutH n (0 :: x))) := fun {_ _} w' hw' => Tryz.tLeaf_w x n w' (hx x (by simp)) hn (Tryz.sha_ext hS hw'.ext)
      refine Tri.enter (bx := []) (hp := []) Tryz.func78 rfl (by kernel_rfl) rfl (Own.nil w) ?_
      rw [rootB_one]
      refine At.go [false, true] [hR [.string { data := x.toArray }], hC (.string { data := (cutH n (0 :: x)).toArray })] rfl (by and_intros <;> first | exact fL | exact r | (simp; done) | exact oK) ?_
      refine At.rt [] [] [] Tryz.func78 ?_
      exact ⟨rfl, rfl, rfl⟩
    have h2 : 2 ≤ l.length := by omega
    have hs := splN_in h2
    rw [rootB_two n h2]
    have eT : (l.take (splN l.length)).length = splN l.length := by rw [List.length_take]; omega
    have eD : (l.drop (splN l.length)).length = l.length - splN l.length := List.length_drop
    have fS : ∀ {S : Base} {bx : Bx} {hp : List Seg}, CallOb Tryz.prog S bx hp 111 [.slice (some ⟨g, o, none⟩) l.length cap] (.tuple #[.slice (some ⟨g, o, none⟩) (splN l.length) (splN l.length), .slice (some ⟨g, o + splN l.length, none⟩) (l.length - splN l.length) (cap - splN l.length)]) := fun {_ _ _} w' _ => Tryz.sides_w l.length g o cap w' h2 hl hcap
    have fA : ∀ {bx : Bx} {hp : List Seg}, CallOb Tryz.prog ⟨w, kys [] []⟩ bx hp 78 [.slice (some ⟨g, o, none⟩) (splN l.length) (splN l.length), .int .i64 n] (str (rootB n (l.take (splN l.length)))) := fun {_ _} w' hw' => by
      have := ih (l.take (splN l.length)) (some ⟨g, o, none⟩) (splN l.length) w' (by omega) (by omega) (by omega) (fun x h => hx x (List.mem_of_mem_take h)) (SlOk.rowsT _ (hr.ext hw'.ext (by simp [kys]))) (Tryz.sha_ext hS hw'.ext)
      rwa [eT] at this
    have fB : ∀ {bx : Bx} {hp : List Seg}, CallOb Tryz.prog ⟨w, kys [] []⟩ bx hp 78 [.slice (some ⟨g, o + splN l.length, none⟩) (l.length - splN l.length) (cap - splN l.length), .int .i64 n] (str (rootB n (l.drop (splN l.length)))) := fun {_ _} w' hw' => by
      have := ih (l.drop (splN l.length)) (some ⟨g, o + splN l.length, none⟩) (cap - splN l.length) w' (by omega) (by omega) (by omega) (fun x h => hx x (List.mem_of_mem_drop h)) (SlOk.rowsD _ (hr.ext hw'.ext (by simp [kys]))) (Tryz.sha_ext hS hw'.ext)
      rwa [eD] at this
    have fN : ∀ {bx : Bx} {hp : List Seg}, CallOb Tryz.prog ⟨w, kys [] []⟩ bx hp 112 [str (rootB n (l.take (splN l.length))), str (rootB n (l.drop (splN l.length))), .int .i64 n] (str (cutH n (1 :: (rootB n (l.take (splN l.length)) ++ rootB n (l.drop (splN l.length)))))) := fun {_ _} w' hw' =>
      Tryz.tNode_w _ _ n w' (by rw [rootB_len hn.2]; omega) (by rw [rootB_len hn.2]; omega) hn (Tryz.sha_ext hS hw'.ext)
    refine Tri.enter (bx := []) (hp := []) Tryz.func78 rfl (by kernel_rfl) rfl (Own.nil w) ?_
    refine At.go [false, false] [hC (.tuple ⟨[.slice (some ⟨g, o, none⟩) (splN l.length) (splN l.length), .slice (some ⟨g, o + splN l.length, none⟩) (l.length.sub (splN l.length)) (cap.sub (splN l.length))]⟩), hC (.string { data := (rootB n (List.take (splN l.length) l)).toArray }), hC (.string { data := (rootB n (List.drop (splN l.length) l)).toArray }), hC (.string { data := (cutH n (1 :: (rootB n (List.take (splN l.length) l) ++ rootB n (List.drop (splN l.length) l)))).toArray })] rfl (by and_intros <;> first | exact fS | exact fA | exact fB | exact fN | exact decide_eq_false (by omega) | exact oK) ?_
    refine At.rt [] [] [] Tryz.func78 ?_
    exact ⟨rfl, rfl, rfl⟩
theorem Tryz.tright_w (n : Nat) (hn : 1 ≤ n ∧ n ≤ 32) (c : Nat) (a : Option Addr) (cap : Nat) (w : World) (hl : c ≤ 4096) : Fun Tryz.prog 77 [.slice a c cap, .int .i64 n] w (.int .i64 0) := by
  refine Tri.enter (bx := []) (hp := []) Tryz.func77 rfl (by kernel_rfl) rfl (Own.nil w) ?_
  refine At.go [false, false, false] [] rfl (by and_intros <;> first | exact decide_eq_false (by omega) | exact oK) ?_
  refine At.rt [] [] [] Tryz.func77 ?_
  exact ⟨rfl, rfl, rfl⟩
theorem Tryz.tRoot_w (n : Nat) (hn : 1 ≤ n ∧ n ≤ 32) (l : List (List UInt8)) (a : Option Addr) (cap : Nat) (w : World) (hl : l.length ≤ 4096) (hcap : l.length ≤ cap) (hx : ∀ x, x ∈ l → x.length ≤ 100000) (hr : SlOk w a (l.map str)) (hS : Tryz.Sha w) :
    Fun Tryz.prog 41 [.slice a l.length cap, .int .i64 n] w (.tuple #[str (rootB n l), .int .i64 0]) := by
  have fT : ∀ {S : Base} {bx : Bx} {hp : List Seg}, CallOb Tryz.prog S bx hp 77 [.slice a l.length cap, .int .i64 n] (.int .i64 0) := fun {_ _ _} w' _ => Tryz.tright_w n hn l.length a cap w' hl
  have fR : ∀ {bx : Bx} {hp : List Seg}, CallOb Tryz.prog ⟨w, kys [] []⟩ bx hp 78 [.slice a l.length cap, .int .i64 n] (str (rootB n l)) := fun {_ _} w' hw' =>
    Tryz.troot_w n hn l.length l a cap w' (Nat.le_refl _) (by omega) hcap hx (hr.ext hw'.ext (by simp [kys])) (Tryz.sha_ext hS hw'.ext)
  refine Tri.enter (bx := []) (hp := []) Tryz.func41 rfl (by kernel_rfl) rfl (Own.nil w) ?_
  refine At.go [false] [hC (.int .i64 0), hC (.string { data := (rootB n l).toArray })] rfl (by and_intros <;> first | exact fT | exact fR | (simp; done) | exact oK) ?_
  refine At.rt [] [] [] Tryz.func41 ?_
  exact ⟨rfl, rfl, rfl⟩
end Go.Proofs

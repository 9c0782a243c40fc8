/-
  Walks of layer 14: keys sorted.
-/
import Derived.Test.YtfpoclhenokhhaaDoorM17
import Derived.Test.YtfpoclhenokhhaaDoorM18
/-
  Walks of layer 14: keys sorted.
-/
namespace Go.Proofs
open Go Go.Eng
set_option maxRecDepth 100000
set_option maxHeartbeats 4000000
attribute [local irreducible] Tri

theorem flatK_eq {α : Type} [Inhabited α] {enc : α → List Value} {k : Nat} (hk : ∀ x, (enc x).length = k) (l : List α) : (Sort.flatK enc k l.toArray).toList = l.flatMap enc := by
  have hl := flat_len (f := enc) (sz := k) (l := l) (fun x _ => hk x)
  apply List.ext_getElem?
  intro j
  by_cases hj : j < l.length * k
  · have hk0 : 0 < k := Nat.pos_of_ne_zero (by rintro rfl; simp at hj)
    have hd : j / k < l.length := Nat.div_lt_of_lt_mul (by rw [Nat.mul_comm]; exact hj)
    have hm : j % k < (enc l[j / k]).length := by rw [hk]; exact Nat.mod_lt _ hk0
    have hr := flat_get (f := enc) (sz := k) (fun x _ => hk x) (List.getElem?_eq_getElem hd) (j % k) _ (List.getElem?_eq_getElem hm)
    have e : j / k * k + j % k = j := by rw [Nat.mul_comm]; exact Nat.div_add_mod j k
    rw [e] at hr
    rw [hr, Array.getElem?_toList, Array.getElem?_eq_getElem (by simpa using hj)]
    congr 1
    have := Sort.get_flatK enc k l.toArray j (by simpa using hj)
    rw [getElem!_pos _ j (by simpa using hj)] at this
    rw [this]
    simp [hd, getElem!_pos, hm]
  · rw [List.getElem?_eq_none (by rw [Array.length_toList, Sort.size_flatK]; simp; omega), List.getElem?_eq_none (by omega)]
theorem take_putId (cur F : Array Value) (h : F.size ≤ cur.size) : (Sort.putCells id 0 F cur).toList.take F.size = F.toList := by
  apply List.ext_getElem?
  intro j
  by_cases hj : j < F.size
  · rw [List.getElem?_take_of_lt hj, Array.getElem?_toList, Array.getElem?_toList]
    simp [Sort.putCells, hj, show j < cur.size by omega]
  · rw [List.getElem?_take_eq_none (by omega), List.getElem?_eq_none (by simp; omega)]

def k3c (k : K3T) : List Value := i64s (kl k)
def cf3 (k l : K3T) : Int := cmpL (kl k) (kl l)
theorem cf3_lt {k l : K3T} : cf3 k l < 0 ↔ lt3 k l := by
  obtain ⟨a, b, c⟩ := k
  obtain ⟨x, y, z⟩ := l
  have h1 := @cmpI_lt a x
  have h2 := @cmpI_lt b y
  have h3 := @cmpI_lt c z
  have e1 := @cmpI_eq a x
  have e2 := @cmpI_eq b y
  have e3 := @cmpI_eq c z
  simp only [cf3, kl, cmpL, lt3]
  by_cases h : cmpI a x = 0
  · rw [if_pos h]
    by_cases h' : cmpI b y = 0
    · rw [if_pos h']
      by_cases h'' : cmpI c z = 0
      · rw [if_pos h'']; omega
      · rw [if_neg h'']; omega
    · rw [if_neg h']; omega
  · rw [if_neg h]; omega
theorem cf3_b (k l : K3T) : _root_.Go.Proofs.ltOf cf3 k l = decide (lt3 k l) := by
  unfold _root_.Go.Proofs.ltOf
  exact decide_eq_decide.2 cf3_lt
theorem swo3 : Sort.SWO (_root_.Go.Proofs.ltOf cf3) where
  irrefl x := by rw [cf3_b]; exact decide_eq_false (lt3_irrefl x)
  trans x y z h1 h2 := by rw [cf3_b] at *; simp only [decide_eq_true_eq] at *; exact lt3_trans h1 h2
  ntrans x y z h1 h2 := by
    rw [cf3_b] at *
    simp only [decide_eq_false_iff_not] at *
    intro h
    rcases lt3_tri x y with h3 | h3 | h3
    · exact h1 h3
    · subst h3; exact h2 h
    · exact h2 (lt3_trans h3 h)
def sort3 (ks : List K3T) : List K3T := ks.mergeSort fun x y => !(_root_.Go.Proofs.ltOf cf3) y x

theorem Tryd.sortK_w (g cap : Nat) (ks : List K3T) (w : World) (hown : Own [] [Seg.row (some g) 62 3 ks.length cap (ks.flatMap k3c)] w) (hlen : ks.length ≤ 1000000000) :
    Tri Tryd.prog 23 [sv (some g) ks.length cap, .func (.func 24) ⟨[]⟩ ⟨[]⟩] w (kys [] [Seg.row (some g) 62 3 ks.length cap (ks.flatMap k3c)])
      (fun v bx hp => v = .tuple #[] ∧ bx = [] ∧ hp = [Seg.row (some g) 62 3 ks.length cap ((sort3 ks).flatMap k3c)]) := by
  have hrow : rowOk w (some g) 62 3 ks.length cap (ks.flatMap k3c) := hown.hp (Seg.row (some g) 62 3 ks.length cap (ks.flatMap k3c)) (by simp)
  obtain ⟨cur, fr, h1, h2, h3, h4⟩ := hrow.blk g rfl
  have hle := hrow.le
  have hlt := (Array.getElem?_eq_some_iff.1 h1).1
  have hfl := flatK_eq (enc := k3c) (k := 3) (fun _ => rfl) ks
  have hH : Sort.HoldsK k3c 3 w g 0 ks.toArray := by
    intro j hj
    have hj' : j < ks.length * 3 := by simpa using hj
    have hs : (ks.flatMap k3c)[j]? = some ((Sort.flatK k3c 3 ks.toArray)[j]!) := by
      rw [← hfl, Array.getElem?_toList, Array.getElem?_eq_getElem hj, getElem!_pos _ j hj]
    refine ⟨?_, ?_⟩
    · rw [Nat.zero_add, hrow.cell hs]; rfl
    · rw [Nat.zero_add]
      simp only [World.frozen?, h1]
      rcases h4 with h4 | h4
      · rw [h4]; simp
      · obtain ⟨lo, hi⟩ := fr
        have : ¬ lo ≤ j := by simp only at h4; omega
        simp [this]
  refine Tri.mk ⟨_, Tryd.func23, rfl, by decide⟩ ?_
  have eg : ∀ args w, (callFunc 24 args).run Tryd.prog w = .ok (.enter 24 args) w := _root_.Go.Proofs.enters_of Tryd.func24 (by kernel_rfl) rfl
  have hcmp : _root_.Go.Proofs.CmpLays Tryd.prog 24 #[] k3c 3 cf3 g 0 ks.toArray.size w := fun m os dk _ x y =>
    (Tryd.ahead_w x y (_root_.Go.Proofs.sortWorldK k3c 3 w g 0 m dk os)).calls.mono fun e w' ⟨he, hx⟩ => ⟨he, hx.grown⟩
  have hcon := AnyQ.slices_SortFunc_total Tryd.sortKeys 3 Tryd.isAgg62 Tryd.sizeOf62 k3c (fun _ => rfl) (fun x v hv => i64s_one _ v hv) cf3 swo3 24 #[] g 0 cap ks.toArray w eg hcmp hH hlt (by simp; omega) (fun x y hx hy => by
    rw [cf3_b] at hx hy
    simp only [decide_eq_false_iff_not] at hx hy
    rcases lt3_tri x y with h | h | h
    · exact (hx h).elim
    · exact h
    · exact (hy h).elim)
  refine hcon.mono ?_
  rintro e w' ⟨rfl, q, os, rfl⟩
  have hsl : (sort3 ks).length = ks.length := List.length_mergeSort _
  have hfs := flatK_eq (enc := k3c) (k := 3) (fun _ => rfl) (sort3 ks)
  have hheap : ∀ k, k < w.heap.size → k ≠ g → (_root_.Go.Proofs.sortWorldK k3c 3 w g 0 q (sort3 ks).toArray os).heap[k]? = w.heap[k]? := by
    intro k hk hne
    unfold _root_.Go.Proofs.sortWorldK Sort.putRowK
    rw [Sort.heap_grow_old _ _ (by simpa using hk)]
    simp [Sort.putRow, Sort.mapBlock, Sort.ahead, Array.getElem?_modify, Ne.symm hne]
  have hblk : (_root_.Go.Proofs.sortWorldK k3c 3 w g 0 q (sort3 ks).toArray os).heap[g]? = some (.cells (Sort.putCells id 0 (Sort.flatK k3c 3 (sort3 ks).toArray) cur) 62 fr) := by
    unfold _root_.Go.Proofs.sortWorldK Sort.putRowK
    rw [Sort.heap_grow_old _ _ (by simpa using hlt)]
    simp [Sort.putRow, Sort.mapBlock, Sort.ahead, Array.getElem?_modify, h1, Sort.onCells]
  have hsz : (Sort.putCells id 0 (Sort.flatK k3c 3 (sort3 ks).toArray) cur).size = cur.size := by simp [Sort.putCells]
  have hfz : (Sort.flatK k3c 3 (sort3 ks).toArray).size = ks.length * 3 := by simp [hsl]
  have htk := take_putId cur (Sort.flatK k3c 3 (sort3 ks).toArray) (by rw [hfz, h2]; exact Nat.mul_le_mul_right 3 hle)
  refine ⟨.tuple #[], [], _, rfl, ⟨rfl, rfl, rfl⟩, ⟨rfl, rfl, rfl, Nat.le_add_right _ _, by simp [_root_.Go.Proofs.sortWorldK, Sort.putRowK], fun k hk hm => hheap k hk (by simpa [kys, Seg.row] using hm)⟩, ⟨by simp [kys, Seg.row], fun k hk => ?_, by simp, fun s hs => ?_⟩, fun k hk => .inl hk⟩
  · have : k = g := by simpa [kys, Seg.row] using hk
    subst this
    simp [_root_.Go.Proofs.sortWorldK, Sort.putRowK]; omega
  · simp only [List.mem_singleton] at hs
    subst hs
    refine ⟨?_, hrow.le, hrow.max, by simp, fun g' hg' => ?_⟩
    · rw [flat_len (f := k3c) (sz := 3) (fun _ _ => rfl), hsl]
    · cases hg'
      refine ⟨_, fr, hblk, by rw [hsz]; exact h2, ?_, by rw [hsz]; exact h4⟩
      rw [hfz, hfs] at htk
      exact htk

end Go.Proofs

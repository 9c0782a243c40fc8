/-
  Walks of layer 21 and of its document: a segment's rows.
-/
import Derived.Test.YtibdpdlghibijaaGreatDoorMP16
import Derived.Test.YtibdpdlghibijaaGreatDoorMP7
import Derived.Test.YtibdpdlghibijaaGreatDoorMP32
import Derived.Test.YtibdpdlghibijaaGreatDoorMP37
import Derived.Test.YtibdpdlghibijaaGreatDoorMP28
import Derived.Test.YtibdpdlghibijaaGreatDoorMP29
import Derived.Test.YtibdpdlghibijaaGreatDoorMP21
import Derived.Test.YtibdpdlghibijaaGreatDoorMP12
namespace Go.Proofs
open Go Go.Eng
set_option maxRecDepth 100000
set_option maxHeartbeats 4000000
attribute [local irreducible] Tri
def Tryz.Tabs (W:World):Prop:=Tryz.Sha W∧Tryz.Pow W
def Tryz.tabG:List Nat:=[1,0,2]
theorem var_extM {P:Program}{m:List Nat}{w w':World}{name:String}{cs:Array Value}{g:Nat}(hg:P.globalNamed name=some g) (h:w.var? P name=some cs) (he:Ext m w w') (hm:g ∉ m):w'.var? P name=some cs:=by
  unfold World.var? at h ⊢
  rw [hg] at h ⊢
  simp only [Option.bind_some] at h ⊢
  cases hb:w.heap[g]? with
  | none => rw [hb] at h; cases h
  | some b =>
    rw [he.block g (Array.getElem?_eq_some_iff.1 hb).1 hm,hb]
    rw [hb] at h; exact h
theorem Tryz.tabs_ext {m:List Nat}{w w':World}(h:Tryz.Tabs w) (he:Ext m w w') (hm:∀ k,k∈Tryz.tabG→k ∉ m):Tryz.Tabs w' :=
  ⟨⟨h.1.1.ext he (fun k hk=>hm k (by simp only [slB] at hk; simp at hk; subst hk; simp [Tryz.tabG])),h.1.2.ext he (fun k hk=>hm k (by simp only [slB] at hk; simp at hk; subst hk; simp [Tryz.tabG]))⟩,var_extM (g:=2) (by kernel_rfl) h.2 he (hm _ (by simp [Tryz.tabG]))⟩
theorem Tryz.tabs_ext0 {w w':World}(h:Tryz.Tabs w) (he:Ext [] w w'):Tryz.Tabs w':=Tryz.tabs_ext h he (by simp)
theorem Tryz.tabs_lt {w:World}(h:Tryz.Tabs w):∀ k,k∈Tryz.tabG→k < w.heap.size:=by
  intro k hk
  simp only [Tryz.tabG,List.mem_cons,List.not_mem_nil,or_false] at hk
  rcases hk with rfl | rfl | rfl
  · exact h.1.1.lt (by decide) _ (by simp [slB])
  · exact h.1.2.lt (by decide) _ (by simp [slB])
  · have h2:=h.2
    unfold Tryz.Pow Lib.TabIs World.var? at h2
    rw [show Tryz.prog.globalNamed "internal/strconv.uint64pow10"=some 2 by kernel_rfl] at h2
    simp only [Option.bind_some] at h2
    exact Classical.byContradiction fun hc=>by
      rw [Array.getElem?_eq_none (by omega)] at h2; cases h2
theorem SlOk.extR {m:List Nat}{w w':World}{a:Option Addr}{xs:List Value}(h:SlOk w a xs) (he:Ext m w w') (hm:∀ k,k∈slR a xs→k ∉ m):SlOk w' a xs:=by
  cases xs with
  | nil => exact .inl rfl
  | cons x l => exact h.ext he hm
end Go.Proofs

/-
  What a card's row lists of the digest's constants and of the powers of ten.
-/
import Derived.Test.YtibdpdlghibijaaGreatDoorMP38
import Derived.Lib.LaidTab
import Derived.Stop.LaidErr
namespace Go.Proofs
open Go Go.Eng
set_option maxRecDepth 100000
set_option maxHeartbeats 4000000
attribute [local irreducible] Tri
def K64z:List Int:=[1116352408,1899447441,3049323471,3921009573,961987163,1508970993,2453635748,2870763221,3624381080,310598401,607225278,1426881987,1925078388,2162078206,2614888103,3248222580,3835390401,4022224774,264347078,604807628,770255983,1249150122,1555081692,1996064986,2554220882,2821834349,2952996808,3210313671,3336571891,3584528711,113926993,338241895,666307205,773529912,1294757372,1396182291,1695183700,1986661051,2177026350,2456956037,2730485921,2820302411,3259730800,3345764771,3516065817,3600352804,4094571909,275423344,430227734,506948616,659060556,883997877,958139571,1322822218,1537002063,1747873779,1955562222,2024104815,2227730452,2361852424,2428436474,2756734187,3204031479,3329325298]
def H0z:List Int:=[1779033703,3144134277,1013904242,2773480762,1359893119,2600822924,528734635,1541459225]
theorem K64z_eq:w32s K64=K64z.map (Value.int .u32):=by rfl
theorem H0z_eq:w32s H0.l=H0z.map (Value.int .u32):=by rfl
theorem sl_of_tab {W:World}{name:String}{k:IntKind}{zs:List Int}{g:Nat}(h:Lib.TabIs Tryz.prog W name k zs) (hg:Tryz.prog.globalNamed name=some g):SlOk W (some ⟨g,0,none⟩) (zs.map (Value.int k)):=by
  refine .inr ⟨g,0,rfl,fun j u hu=>?_⟩
  have:=World.var?_cell hg h j
  rw [Nat.zero_add,this]
  simpa using hu
theorem Tryz.tabs_of {W:World}{r:List (String × DataW Unit)}(h:laidMet Tryz.prog (("engross/sha.constants",Lib.tabData .u32 K64z) :: ("engross/sha.first",Lib.tabData .u32 H0z) :: ("internal/strconv.uint64pow10",Lib.tabData .u64 Lib.pow10Tab) :: r) W):Tryz.Tabs W:=by
  have u32:Tryz.prog.underlying 32=some (.int .u32):=by kernel_rfl
  have c32:Tryz.prog.cellsOf 32=1:=by kernel_rfl
  have h1:=Lib.tabIs_of_head (g:=1) (t:=33) (e:=32) (n:=64) (by kernel_rfl) (by kernel_rfl) (by kernel_rfl) u32 c32 (by kernel_rfl) h
  have h2:=Lib.tabIs_of_head (g:=0) (t:=34) (e:=32) (n:=8) (by kernel_rfl) (by kernel_rfl) (by kernel_rfl) u32 c32 (by kernel_rfl) (laidMet.tail h)
  have h3:=Lib.tabIs_of_head (g:=2) (t:=246) (e:=137) (n:=20) (by kernel_rfl) (by kernel_rfl) (by kernel_rfl) (by kernel_rfl) (by kernel_rfl) (by kernel_rfl) (laidMet.tail (laidMet.tail h))
  refine⟨⟨?_,?_⟩,h3⟩
  · rw [K64z_eq]; exact sl_of_tab h1 (by kernel_rfl)
  · rw [H0z_eq]; exact sl_of_tab h2 (by kernel_rfl)
end Go.Proofs

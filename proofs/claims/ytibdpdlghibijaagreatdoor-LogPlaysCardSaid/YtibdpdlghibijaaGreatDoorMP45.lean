/-
  The library's sort at strings: the kit's contract, laid at this program (by the kit's tool, its plain mode).
-/
import Derived.Shelf.Sort.Plain
import Derived.Shelf.Slices.In.SortNone
import Derived.Test.YtibdpdlghibijaaGreatDoorProg
namespace Go.Proofs
open Go.Shelf
def Tryz.lays190_ren:Go.Shelf.Ren:=⟨fun | 190=>126 | 125=>142 | 258=>141 | 128=>167 | 129=>168 | 302=>158 | 303=>159 | 304=>160 | 305=>161 | 306=>162 | 307=>163 | 308=>164 | 309=>165 | 310=>166 | 333=>181 | 329=>182 | 330=>183 | 334=>184 | 335=>185 | 336=>186 | 344=>194 | n=>n,fun | 31=>24 | 9=>9 | 3=>3 | 46=>188 | 0=>0 | 51=>32 | 53=>137 | 4=>4 | 183=>203 | 182=>202 | 131=>168 | 5=>5 | 218=>228 | 222=>232 | 228=>242 | 229=>243 | n=>n,fun | n=>n⟩
theorem Tryz.lays190:Go.Proofs.Lays.n190 Tryz.prog Tryz.lays190_ren:={
  mixed:=by kernel_rfl
  f125:=Tryz.func142.trans (congrArg some (by kernel_rfl))
  f128:=Tryz.func167.trans (congrArg some (by kernel_rfl))
  f129:=Tryz.func168.trans (congrArg some (by kernel_rfl))
  f190:=Tryz.func126.trans (congrArg some (by kernel_rfl))
  f258:=Tryz.func141.trans (congrArg some (by kernel_rfl))
  f302:=Tryz.func158.trans (congrArg some (by kernel_rfl))
  f303:=Tryz.func159.trans (congrArg some (by kernel_rfl))
  f304:=Tryz.func160.trans (congrArg some (by kernel_rfl))
  f305:=Tryz.func161.trans (congrArg some (by kernel_rfl))
  f306:=Tryz.func162.trans (congrArg some (by kernel_rfl))
  f307:=Tryz.func163.trans (congrArg some (by kernel_rfl))
  f308:=Tryz.func164.trans (congrArg some (by kernel_rfl))
  f309:=Tryz.func165.trans (congrArg some (by kernel_rfl))
  f310:=Tryz.func166.trans (congrArg some (by kernel_rfl))
  f329:=Tryz.func182.trans (congrArg some (by kernel_rfl))
  f330:=Tryz.func183.trans (congrArg some (by kernel_rfl))
  f333:=Tryz.func181.trans (congrArg some (by kernel_rfl))
  f334:=Tryz.func184.trans (congrArg some (by kernel_rfl))
  f335:=Tryz.func185.trans (congrArg some (by kernel_rfl))
  f336:=Tryz.func186.trans (congrArg some (by kernel_rfl))
  f344:=Tryz.func194.trans (congrArg some (by kernel_rfl))
  t0:=Tryz.underlying0
  a0:=Tryz.isAgg0
  z0:=Tryz.sizeOf0
  v0:=Tryz.zeroValue0
  t3:=Tryz.underlying3
  a3:=Tryz.isAgg3
  z3:=Tryz.sizeOf3
  v3:=Tryz.zeroValue3
  t4:=Tryz.underlying4
  a4:=Tryz.isAgg4
  z4:=Tryz.sizeOf4
  v4:=Tryz.zeroValue4
  t5:=Tryz.underlying5
  a5:=Tryz.isAgg5
  z5:=Tryz.sizeOf5
  v5:=Tryz.zeroValue5
  t9:=Tryz.underlying9
  a9:=Tryz.isAgg9
  z9:=Tryz.sizeOf9
  v9:=Tryz.zeroValue9
  t31:=Tryz.underlying24
  a31:=Tryz.isAgg24
  z31:=Tryz.sizeOf24
  v31:=Tryz.zeroValue24
  t46:=Tryz.underlying188
  a46:=Tryz.isAgg188
  z46:=Tryz.sizeOf188
  v46:=Tryz.zeroValue188
  t51:=Tryz.underlying32
  a51:=Tryz.isAgg32
  z51:=Tryz.sizeOf32
  v51:=Tryz.zeroValue32
  t53:=Tryz.underlying137
  a53:=Tryz.isAgg137
  z53:=Tryz.sizeOf137
  v53:=Tryz.zeroValue137
  t131:=Tryz.underlying168
  a131:=Tryz.isAgg168
  z131:=Tryz.sizeOf168
  v131:=Tryz.zeroValue168
  t182:=Tryz.underlying202
  a182:=Tryz.isAgg202
  z182:=Tryz.sizeOf202
  v182:=Tryz.zeroValue202
  t183:=Tryz.underlying203
  a183:=Tryz.isAgg203
  z183:=Tryz.sizeOf203
  v183:=Tryz.zeroValue203
  t218:=Tryz.underlying228
  a218:=Tryz.isAgg228
  z218:=Tryz.sizeOf228
  v218:=Tryz.zeroValue228
  t222:=Tryz.underlying232
  a222:=Tryz.isAgg232
  z222:=Tryz.sizeOf232
  v222:=Tryz.zeroValue232
  t228:=Tryz.underlying242
  a228:=Tryz.isAgg242
  z228:=Tryz.sizeOf242
  v228:=Tryz.zeroValue242
  t229:=Tryz.underlying243
  a229:=Tryz.isAgg243
  z229:=Tryz.sizeOf243
  v229:=Tryz.zeroValue243 }
open Go.Sort Go.RowKit in
theorem Tryz.slices_Sort_string (blk off cap:Nat) (ss:List (List UInt8)) (w:World) (hH:Holds encStr w blk off ss.toArray) (hblk:blk < w.heap.size) (hsz:ss.length < 4611686018427387904) :
    Calls Tryz.prog 126 #[.slice (some ⟨blk,off,none⟩) ss.length cap] w fun e w' =>
      e=.returned (.tuple #[])∧∃ n os,w'=grow (putRow encStr (Sort.ahead w n) blk off (ss.mergeSort fun x y=>decide (x≤y)).toArray) os:=Any.slices_Sort_string Tryz.lays190 blk off cap ss w hH hblk hsz
open Go.RowKit Go.Sort in
theorem Tryz.slices_Sort_string_none (p:Option Addr) (cap:Nat) (w:World) :
    Calls Tryz.prog 126 #[.slice p 0 cap] w fun e w'=>e=.returned (.tuple #[])∧w'=w:=Any.slices_Sort_string_none Tryz.lays190 p cap w
end Go.Proofs

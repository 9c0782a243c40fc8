/-
  The library's contracts, laid at this program: strconv.Itoa, slices.Sort and slices.Compact at int (by the kit's tool, its plain mode)
-/
import Derived.Shelf.Slices.CompactI
import Derived.Shelf.Sort.Plain
import Derived.Shelf.Slices.In.SortNone
import Derived.Shelf.Strconv.Itoa3
import Derived.KernelRfl
import Derived.Test.YtibdpdlghibijaaGreatDoorProg
namespace Go.Proofs
open Go.Shelf
def Tryz.laysM171_ren:Go.Shelf.Ren:=⟨fun | 171=>135 | 243=>150 | 246=>172 | 283=>190 | 284=>191 | 285=>192 | 286=>193 | 129=>168 | 317=>196 | 318=>197 | 319=>198 | 320=>199 | 337=>200 | 338=>201 | n=>n,fun | 3=>3 | 9=>9 | 2=>2 | 4=>4 | 171=>237 | 0=>0 | 53=>137 | 37=>109 | 5=>5 | 173=>239 | 212=>246 | 51=>32 | 20=>20 | 213=>247 | 46=>188 | 232=>248 | 233=>249 | n=>n,fun | 17=>2 | 18=>3 | 19=>4 | n=>n⟩
theorem Tryz.laysM171:Go.Proofs.LaysM.n171 Tryz.prog Tryz.laysM171_ren:={
  mixed:=by kernel_rfl
  f129:=Tryz.func168.trans (congrArg some (by kernel_rfl))
  f171:=Tryz.func135.trans (congrArg some (by kernel_rfl))
  f243:=Tryz.func150.trans (congrArg some (by kernel_rfl))
  f246:=Tryz.func172.trans (congrArg some (by kernel_rfl))
  f283:=Tryz.func190.trans (congrArg some (by kernel_rfl))
  f284:=Tryz.func191.trans (congrArg some (by kernel_rfl))
  f285:=Tryz.func192.trans (congrArg some (by kernel_rfl))
  f286:=Tryz.func193.trans (congrArg some (by kernel_rfl))
  f317:=Tryz.func196.trans (congrArg some (by kernel_rfl))
  f318:=Tryz.func197.trans (congrArg some (by kernel_rfl))
  f319:=Tryz.func198.trans (congrArg some (by kernel_rfl))
  f320:=Tryz.func199.trans (congrArg some (by kernel_rfl))
  f337:=Tryz.func200.trans (congrArg some (by kernel_rfl))
  f338:=Tryz.func201.trans (congrArg some (by kernel_rfl))
  t0:=Tryz.underlying0
  a0:=Tryz.isAgg0
  z0:=Tryz.sizeOf0
  v0:=Tryz.zeroValue0
  t2:=Tryz.underlying2
  a2:=Tryz.isAgg2
  z2:=Tryz.sizeOf2
  v2:=Tryz.zeroValue2
  t3:=Tryz.underlying3
  a3:=Tryz.isAgg3
  z3:=Tryz.sizeOf3
  v3:=Tryz.zeroValue3
  t4:=Tryz.underlying4
  a4:=Tryz.isAgg4
  z4:=Tryz.sizeOf4
  v4:=Tryz.zeroValue4
  t5:=Tryz.underlying5
  a5:=Tryz.isAgg5
  z5:=Tryz.sizeOf5
  v5:=Tryz.zeroValue5
  t9:=Tryz.underlying9
  a9:=Tryz.isAgg9
  z9:=Tryz.sizeOf9
  v9:=Tryz.zeroValue9
  t20:=Tryz.underlying20
  a20:=Tryz.isAgg20
  z20:=Tryz.sizeOf20
  v20:=Tryz.zeroValue20
  t37:=Tryz.underlying109
  a37:=Tryz.isAgg109
  z37:=Tryz.sizeOf109
  v37:=Tryz.zeroValue109
  t46:=Tryz.underlying188
  a46:=Tryz.isAgg188
  z46:=Tryz.sizeOf188
  v46:=Tryz.zeroValue188
  t51:=Tryz.underlying32
  a51:=Tryz.isAgg32
  z51:=Tryz.sizeOf32
  v51:=Tryz.zeroValue32
  t53:=Tryz.underlying137
  a53:=Tryz.isAgg137
  z53:=Tryz.sizeOf137
  v53:=Tryz.zeroValue137
  t171:=Tryz.underlying237
  a171:=Tryz.isAgg237
  z171:=Tryz.sizeOf237
  v171:=Tryz.zeroValue237
  t173:=Tryz.underlying239
  a173:=Tryz.isAgg239
  z173:=Tryz.sizeOf239
  v173:=Tryz.zeroValue239
  t212:=Tryz.underlying246
  a212:=Tryz.isAgg246
  z212:=Tryz.sizeOf246
  v212:=Tryz.zeroValue246
  t213:=Tryz.underlying247
  a213:=Tryz.isAgg247
  z213:=Tryz.sizeOf247
  t232:=Tryz.underlying248
  a232:=Tryz.isAgg248
  z232:=Tryz.sizeOf248
  v232:=Tryz.zeroValue248
  t233:=Tryz.underlying249
  a233:=Tryz.isAgg249
  z233:=Tryz.sizeOf249
  v233:=Tryz.zeroValue249
  g17:=by kernel_rfl
  g18:=by kernel_rfl
  g19:=by kernel_rfl
  i0:=by kernel_rfl
  i2:=by kernel_rfl
  i3:=by kernel_rfl
  i4:=by kernel_rfl
  i5:=by kernel_rfl
  i9:=by kernel_rfl
  i20:=by kernel_rfl
  i37:=by kernel_rfl
  i46:=by kernel_rfl
  i51:=by kernel_rfl
  i53:=by kernel_rfl
  i171:=by kernel_rfl
  i173:=by kernel_rfl
  i212:=by kernel_rfl
  i232:=by kernel_rfl
  i233:=by kernel_rfl
  m17:=by kernel_rfl
  m18:=by kernel_rfl
  m19:=by kernel_rfl }
open Go.Sort Go.RowKit in
theorem Tryz.strconv_Itoa (n:Int) (h0:-9223372036854775808≤n) (h1:n≤9223372036854775807) (w:World) (htab:Lib.TabIs Tryz.prog w "internal/strconv.uint64pow10" .u64 Lib.pow10Tab) :
    Calls Tryz.prog 135 #[.int .i64 n] w fun e w'=>e=.returned (.string ⟨(Lib.itoa n).toArray⟩)∧∃ k os,w'=grow (w.drewN k) os:=Any.strconv_Itoa Tryz.laysM171 n h0 h1 w htab
end Go.Proofs

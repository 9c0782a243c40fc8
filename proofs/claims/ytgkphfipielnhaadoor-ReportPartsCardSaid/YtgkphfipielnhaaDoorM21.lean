/-
  The library's contracts, laid at this program: bits.Mul64, strconv.Itoa, slices.Sort at int64 (by the kit's tool, its plain mode)
-/
import Derived.Shelf.Bits.Mul64
import Derived.Shelf.Strconv.Itoa3
import Derived.Shelf.SortM.Plain
import Derived.Shelf.SortM.SortNone
import Derived.Shelf.SlGeneric
import Derived.KernelRfl
import Derived.Test.YtgkphfipielnhaaDoorProg
/-
  The library's contracts, laid at this program: bits.Mul64, strconv.Itoa, slices.Sort at int64 (by the kit's tool, its plain mode)
-/
namespace Go.Proofs
open Go.Shelf
def Tryd.lays171_ren : Go.Shelf.Ren := ⟨fun | 171 => 69 | 243 => 113 | 246 => 121 | 283 => 160 | 284 => 161 | 285 => 162 | 286 => 163 | 129 => 159 | 317 => 189 | 318 => 190 | 319 => 191 | 320 => 192 | 337 => 203 | 338 => 204 | n => n, fun | 3 => 3 | 9 => 9 | 2 => 2 | 4 => 4 | 171 => 227 | 0 => 0 | 53 => 80 | 37 => 107 | 5 => 5 | 173 => 229 | 212 => 253 | 51 => 225 | 20 => 20 | 213 => 254 | 46 => 178 | 232 => 270 | 233 => 271 | n => n, fun | 17 => 5 | 18 => 9 | 19 => 10 | n => n⟩
theorem Tryd.lays171 : Go.Proofs.Lays.n171 Tryd.prog Tryd.lays171_ren := {
  mixed := by kernel_rfl
  f129 := Tryd.func159.trans (congrArg some (by kernel_rfl))
  f171 := Tryd.func69.trans (congrArg some (by kernel_rfl))
  f243 := Tryd.func113.trans (congrArg some (by kernel_rfl))
  f246 := Tryd.func121.trans (congrArg some (by kernel_rfl))
  f283 := Tryd.func160.trans (congrArg some (by kernel_rfl))
  f284 := Tryd.func161.trans (congrArg some (by kernel_rfl))
  f285 := Tryd.func162.trans (congrArg some (by kernel_rfl))
  f286 := Tryd.func163.trans (congrArg some (by kernel_rfl))
  f317 := Tryd.func189.trans (congrArg some (by kernel_rfl))
  f318 := Tryd.func190.trans (congrArg some (by kernel_rfl))
  f319 := Tryd.func191.trans (congrArg some (by kernel_rfl))
  f320 := Tryd.func192.trans (congrArg some (by kernel_rfl))
  f337 := Tryd.func203.trans (congrArg some (by kernel_rfl))
  f338 := Tryd.func204.trans (congrArg some (by kernel_rfl))
  t0 := Tryd.underlying0
  a0 := Tryd.isAgg0
  z0 := Tryd.sizeOf0
  v0 := Tryd.zeroValue0
  t2 := Tryd.underlying2
  a2 := Tryd.isAgg2
  z2 := Tryd.sizeOf2
  v2 := Tryd.zeroValue2
  t3 := Tryd.underlying3
  a3 := Tryd.isAgg3
  z3 := Tryd.sizeOf3
  v3 := Tryd.zeroValue3
  t4 := Tryd.underlying4
  a4 := Tryd.isAgg4
  z4 := Tryd.sizeOf4
  v4 := Tryd.zeroValue4
  t5 := Tryd.underlying5
  a5 := Tryd.isAgg5
  z5 := Tryd.sizeOf5
  v5 := Tryd.zeroValue5
  t9 := Tryd.underlying9
  a9 := Tryd.isAgg9
  z9 := Tryd.sizeOf9
  v9 := Tryd.zeroValue9
  t20 := Tryd.underlying20
  a20 := Tryd.isAgg20
  z20 := Tryd.sizeOf20
  v20 := Tryd.zeroValue20
  t37 := Tryd.underlying107
  a37 := Tryd.isAgg107
  z37 := Tryd.sizeOf107
  v37 := Tryd.zeroValue107
  t46 := Tryd.underlying178
  a46 := Tryd.isAgg178
  z46 := Tryd.sizeOf178
  v46 := Tryd.zeroValue178
  t51 := Tryd.underlying225
  a51 := Tryd.isAgg225
  z51 := Tryd.sizeOf225
  v51 := Tryd.zeroValue225
  t53 := Tryd.underlying80
  a53 := Tryd.isAgg80
  z53 := Tryd.sizeOf80
  v53 := Tryd.zeroValue80
  t171 := Tryd.underlying227
  a171 := Tryd.isAgg227
  z171 := Tryd.sizeOf227
  v171 := Tryd.zeroValue227
  t173 := Tryd.underlying229
  a173 := Tryd.isAgg229
  z173 := Tryd.sizeOf229
  v173 := Tryd.zeroValue229
  t212 := Tryd.underlying253
  a212 := Tryd.isAgg253
  z212 := Tryd.sizeOf253
  v212 := Tryd.zeroValue253
  t213 := Tryd.underlying254
  a213 := Tryd.isAgg254
  z213 := Tryd.sizeOf254
  t232 := Tryd.underlying270
  a232 := Tryd.isAgg270
  z232 := Tryd.sizeOf270
  v232 := Tryd.zeroValue270
  t233 := Tryd.underlying271
  a233 := Tryd.isAgg271
  z233 := Tryd.sizeOf271
  v233 := Tryd.zeroValue271
  g17 := by kernel_rfl
  g18 := by kernel_rfl
  g19 := by kernel_rfl }
theorem Tryd.strconv_Itoa_small (i : Nat) (hi : i < 100) (w : World) :
    Calls Tryd.prog 69 #[.int .i64 i] w fun e w' => e = .returned (.string ⟨(Lib.decDigits i).toArray⟩) ∧ w' = w := Any.strconv_Itoa_small Tryd.lays171 i hi w
def Tryd.lays264_ren : Go.Shelf.Ren := ⟨fun | 264 => 70 | n => n, fun | 53 => 80 | 46 => 178 | n => n, fun | n => n⟩
theorem Tryd.lays264 : Go.Proofs.Lays.n264 Tryd.prog Tryd.lays264_ren := {
  mixed := by kernel_rfl
  f264 := Tryd.func70.trans (congrArg some (by kernel_rfl))
  t46 := Tryd.underlying178
  a46 := Tryd.isAgg178
  z46 := Tryd.sizeOf178
  v46 := Tryd.zeroValue178
  t53 := Tryd.underlying80
  a53 := Tryd.isAgg80
  z53 := Tryd.sizeOf80
  v53 := Tryd.zeroValue80 }
open Go.RowKit Go.Lib in
theorem Tryd.bits_Mul64 (x y : Nat) (hx : x < 18446744073709551616) (hy : y < 18446744073709551616) (w : World) :
    Calls Tryd.prog 70 #[.int .u64 x, .int .u64 y] w fun e w' => e = .returned (.tuple #[.int .u64 ((x * y / 18446744073709551616 : Nat) : Int), .int .u64 ((x * y % 18446744073709551616 : Nat) : Int)]) ∧ w' = w := Any.bits_Mul64 Tryd.lays264 x y hx hy w
def Tryd.laysSlM5_f75_ren : Go.Shelf.Ren := ⟨fun | 5 => 75 | 8 => 117 | 7 => 116 | 19 => 158 | 20 => 159 | 10 => 149 | 11 => 150 | 12 => 151 | 13 => 152 | 14 => 153 | 15 => 154 | 16 => 155 | 17 => 156 | 18 => 157 | 30 => 183 | 31 => 184 | 32 => 185 | 33 => 186 | 34 => 187 | 35 => 188 | 40 => 202 | n => n, fun | 23 => 44 | 25 => 2 | 3 => 3 | 32 => 178 | 22 => 44 | 0 => 0 | 44 => 225 | 46 => 80 | 4 => 4 | 36 => 218 | 35 => 217 | 41 => 213 | 5 => 5 | 9 => 9 | 53 => 246 | 57 => 160 | 63 => 260 | 64 => 261 | n => n, fun | n => n⟩
theorem Tryd.laysSlM5_f75 : Go.Proofs.SlLaysM.n5 Tryd.prog Tryd.laysSlM5_f75_ren := {
  mixed := by kernel_rfl
  f5 := ⟨Tryd.f75.name, by decide, Tryd.func75.trans (congrArg some (by kernel_rfl))⟩
  f7 := ⟨Tryd.f116.name, by decide, Tryd.func116.trans (congrArg some (by kernel_rfl))⟩
  f8 := Tryd.func117.trans (congrArg some (by kernel_rfl))
  f10 := ⟨Tryd.f149.name, by decide, Tryd.func149.trans (congrArg some (by kernel_rfl))⟩
  f11 := ⟨Tryd.f150.name, by decide, Tryd.func150.trans (congrArg some (by kernel_rfl))⟩
  f12 := ⟨Tryd.f151.name, by decide, Tryd.func151.trans (congrArg some (by kernel_rfl))⟩
  f13 := ⟨Tryd.f152.name, by decide, Tryd.func152.trans (congrArg some (by kernel_rfl))⟩
  f14 := ⟨Tryd.f153.name, by decide, Tryd.func153.trans (congrArg some (by kernel_rfl))⟩
  f15 := ⟨Tryd.f154.name, by decide, Tryd.func154.trans (congrArg some (by kernel_rfl))⟩
  f16 := ⟨Tryd.f155.name, by decide, Tryd.func155.trans (congrArg some (by kernel_rfl))⟩
  f17 := ⟨Tryd.f156.name, by decide, Tryd.func156.trans (congrArg some (by kernel_rfl))⟩
  f18 := ⟨Tryd.f157.name, by decide, Tryd.func157.trans (congrArg some (by kernel_rfl))⟩
  f19 := Tryd.func158.trans (congrArg some (by kernel_rfl))
  f20 := Tryd.func159.trans (congrArg some (by kernel_rfl))
  f30 := ⟨Tryd.f183.name, by decide, Tryd.func183.trans (congrArg some (by kernel_rfl))⟩
  f31 := Tryd.func184.trans (congrArg some (by kernel_rfl))
  f32 := Tryd.func185.trans (congrArg some (by kernel_rfl))
  f33 := ⟨Tryd.f186.name, by decide, Tryd.func186.trans (congrArg some (by kernel_rfl))⟩
  f34 := ⟨Tryd.f187.name, by decide, Tryd.func187.trans (congrArg some (by kernel_rfl))⟩
  f35 := ⟨Tryd.f188.name, by decide, Tryd.func188.trans (congrArg some (by kernel_rfl))⟩
  f40 := ⟨Tryd.f202.name, by decide, Tryd.func202.trans (congrArg some (by kernel_rfl))⟩
  t0 := Tryd.underlying0
  a0 := Tryd.isAgg0
  z0 := Tryd.sizeOf0
  v0 := Tryd.zeroValue0
  t3 := Tryd.underlying3
  a3 := Tryd.isAgg3
  z3 := Tryd.sizeOf3
  v3 := Tryd.zeroValue3
  t4 := Tryd.underlying4
  a4 := Tryd.isAgg4
  z4 := Tryd.sizeOf4
  v4 := Tryd.zeroValue4
  t5 := Tryd.underlying5
  a5 := Tryd.isAgg5
  z5 := Tryd.sizeOf5
  v5 := Tryd.zeroValue5
  t9 := Tryd.underlying9
  a9 := Tryd.isAgg9
  z9 := Tryd.sizeOf9
  v9 := Tryd.zeroValue9
  t22 := Tryd.underlying44
  a22 := Tryd.isAgg44
  z22 := Tryd.sizeOf44
  v22 := Tryd.zeroValue44
  t23 := Tryd.underlying44
  a23 := Tryd.isAgg44
  z23 := Tryd.sizeOf44
  v23 := Tryd.zeroValue44
  t25 := Tryd.underlying2
  a25 := Tryd.isAgg2
  z25 := Tryd.sizeOf2
  v25 := Tryd.zeroValue2
  t32 := Tryd.underlying178
  a32 := Tryd.isAgg178
  z32 := Tryd.sizeOf178
  v32 := Tryd.zeroValue178
  t35 := Tryd.underlying217
  a35 := Tryd.isAgg217
  z35 := Tryd.sizeOf217
  v35 := Tryd.zeroValue217
  t36 := Tryd.underlying218
  a36 := Tryd.isAgg218
  z36 := Tryd.sizeOf218
  v36 := Tryd.zeroValue218
  t41 := Tryd.underlying213
  a41 := Tryd.isAgg213
  z41 := Tryd.sizeOf213
  v41 := Tryd.zeroValue213
  t44 := Tryd.underlying225
  a44 := Tryd.isAgg225
  z44 := Tryd.sizeOf225
  v44 := Tryd.zeroValue225
  t46 := Tryd.underlying80
  a46 := Tryd.isAgg80
  z46 := Tryd.sizeOf80
  v46 := Tryd.zeroValue80
  t53 := Tryd.underlying246
  a53 := Tryd.isAgg246
  z53 := Tryd.sizeOf246
  v53 := Tryd.zeroValue246
  t57 := Tryd.underlying160
  a57 := Tryd.isAgg160
  z57 := Tryd.sizeOf160
  v57 := Tryd.zeroValue160
  t63 := Tryd.underlying260
  a63 := Tryd.isAgg260
  z63 := Tryd.sizeOf260
  v63 := Tryd.zeroValue260
  t64 := Tryd.underlying261
  a64 := Tryd.isAgg261
  z64 := Tryd.sizeOf261
  v64 := Tryd.zeroValue261 }
open Go.Sort Go.RowKit in
theorem Tryd.slices_Sort_int_f75 (blk off cap : Nat) (zs : List Int) (w : World) (hH : Holds (Value.int .i64) w blk off zs.toArray) (hblk : blk < w.heap.size) (hsz : zs.length < 4611686018427387904) :
    Calls Tryd.prog 75 #[.slice (some ⟨blk, off, none⟩) zs.length cap] w fun e w' =>
      e = .returned (.tuple #[]) ∧ ∃ n os, w' = grow (putRow (Value.int .i64) (Sort.ahead w n) blk off (zs.mergeSort fun x y => decide (x ≤ y)).toArray) os := AnyM.slices_Sort_int Tryd.laysSlM5_f75 blk off cap zs w hH hblk hsz
theorem Tryd.slices_Sort_int_none_f75 (p : Option Addr) (cap : Nat) (w : World) :
    Calls Tryd.prog 75 #[.slice p 0 cap] w fun e w' => e = .returned (.tuple #[]) ∧ w' = w := AnyM.slices_Sort_int_none Tryd.laysSlM5_f75 p cap w

end Go.Proofs

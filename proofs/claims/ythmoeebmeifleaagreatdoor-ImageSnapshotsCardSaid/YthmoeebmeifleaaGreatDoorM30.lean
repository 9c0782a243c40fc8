/-
  The library's contracts, laid at this program: strconv.Itoa, slices.Sort and slices.Compact at int (by the kit's tool, its plain mode)
-/
import Derived.Shelf.Slices.CompactI
import Derived.Shelf.Sort.Plain
import Derived.Shelf.Slices.In.SortNone
import Derived.Shelf.Strconv.Itoa3
import Derived.KernelRfl
import Derived.Test.YthmoeebmeifleaaGreatDoorProg
/-
  The library's contracts, laid at this program: strconv.Itoa, slices.Sort and slices.Compact at int (by the kit's tool, its plain mode)
-/
namespace Go.Proofs
open Go.Shelf
def Tryz.laysM171_ren : Go.Shelf.Ren := ⟨fun | 171 => 138 | 243 => 230 | 246 => 283 | 283 => 322 | 284 => 323 | 285 => 324 | 286 => 325 | 129 => 229 | 317 => 341 | 318 => 342 | 319 => 343 | 320 => 344 | 337 => 359 | 338 => 360 | n => n, fun | 3 => 3 | 9 => 9 | 2 => 2 | 4 => 4 | 171 => 395 | 0 => 0 | 53 => 131 | 37 => 338 | 5 => 5 | 173 => 397 | 212 => 421 | 51 => 64 | 20 => 20 | 213 => 422 | 46 => 232 | 232 => 447 | 233 => 448 | n => n, fun | 17 => 4 | 18 => 7 | 19 => 8 | n => n⟩
theorem Tryz.laysM171 : Go.Proofs.LaysM.n171 Tryz.prog Tryz.laysM171_ren := {
  mixed := by kernel_rfl
  f129 := Tryz.func229.trans (congrArg some (by kernel_rfl))
  f171 := Tryz.func138.trans (congrArg some (by kernel_rfl))
  f243 := Tryz.func230.trans (congrArg some (by kernel_rfl))
  f246 := Tryz.func283.trans (congrArg some (by kernel_rfl))
  f283 := Tryz.func322.trans (congrArg some (by kernel_rfl))
  f284 := Tryz.func323.trans (congrArg some (by kernel_rfl))
  f285 := Tryz.func324.trans (congrArg some (by kernel_rfl))
  f286 := Tryz.func325.trans (congrArg some (by kernel_rfl))
  f317 := Tryz.func341.trans (congrArg some (by kernel_rfl))
  f318 := Tryz.func342.trans (congrArg some (by kernel_rfl))
  f319 := Tryz.func343.trans (congrArg some (by kernel_rfl))
  f320 := Tryz.func344.trans (congrArg some (by kernel_rfl))
  f337 := Tryz.func359.trans (congrArg some (by kernel_rfl))
  f338 := Tryz.func360.trans (congrArg some (by kernel_rfl))
  t0 := Tryz.underlying0
  a0 := Tryz.isAgg0
  z0 := Tryz.sizeOf0
  v0 := Tryz.zeroValue0
  t2 := Tryz.underlying2
  a2 := Tryz.isAgg2
  z2 := Tryz.sizeOf2
  v2 := Tryz.zeroValue2
  t3 := Tryz.underlying3
  a3 := Tryz.isAgg3
  z3 := Tryz.sizeOf3
  v3 := Tryz.zeroValue3
  t4 := Tryz.underlying4
  a4 := Tryz.isAgg4
  z4 := Tryz.sizeOf4
  v4 := Tryz.zeroValue4
  t5 := Tryz.underlying5
  a5 := Tryz.isAgg5
  z5 := Tryz.sizeOf5
  v5 := Tryz.zeroValue5
  t9 := Tryz.underlying9
  a9 := Tryz.isAgg9
  z9 := Tryz.sizeOf9
  v9 := Tryz.zeroValue9
  t20 := Tryz.underlying20
  a20 := Tryz.isAgg20
  z20 := Tryz.sizeOf20
  v20 := Tryz.zeroValue20
  t37 := Tryz.underlying338
  a37 := Tryz.isAgg338
  z37 := Tryz.sizeOf338
  v37 := Tryz.zeroValue338
  t46 := Tryz.underlying232
  a46 := Tryz.isAgg232
  z46 := Tryz.sizeOf232
  v46 := Tryz.zeroValue232
  t51 := Tryz.underlying64
  a51 := Tryz.isAgg64
  z51 := Tryz.sizeOf64
  v51 := Tryz.zeroValue64
  t53 := Tryz.underlying131
  a53 := Tryz.isAgg131
  z53 := Tryz.sizeOf131
  v53 := Tryz.zeroValue131
  t171 := Tryz.underlying395
  a171 := Tryz.isAgg395
  z171 := Tryz.sizeOf395
  v171 := Tryz.zeroValue395
  t173 := Tryz.underlying397
  a173 := Tryz.isAgg397
  z173 := Tryz.sizeOf397
  v173 := Tryz.zeroValue397
  t212 := Tryz.underlying421
  a212 := Tryz.isAgg421
  z212 := Tryz.sizeOf421
  v212 := Tryz.zeroValue421
  t213 := Tryz.underlying422
  a213 := Tryz.isAgg422
  z213 := Tryz.sizeOf422
  t232 := Tryz.underlying447
  a232 := Tryz.isAgg447
  z232 := Tryz.sizeOf447
  v232 := Tryz.zeroValue447
  t233 := Tryz.underlying448
  a233 := Tryz.isAgg448
  z233 := Tryz.sizeOf448
  v233 := Tryz.zeroValue448
  g17 := by kernel_rfl
  g18 := by kernel_rfl
  g19 := by kernel_rfl
  i0 := by kernel_rfl
  i2 := by kernel_rfl
  i3 := by kernel_rfl
  i4 := by kernel_rfl
  i5 := by kernel_rfl
  i9 := by kernel_rfl
  i20 := by kernel_rfl
  i37 := by kernel_rfl
  i46 := by kernel_rfl
  i51 := by kernel_rfl
  i53 := by kernel_rfl
  i171 := by kernel_rfl
  i173 := by kernel_rfl
  i212 := by kernel_rfl
  i232 := by kernel_rfl
  i233 := by kernel_rfl
  m17 := by kernel_rfl
  m18 := by kernel_rfl
  m19 := by kernel_rfl }
open Go.Sort Go.RowKit in
theorem Tryz.strconv_Itoa (n : Int) (h0 : -9223372036854775808 ≤ n) (h1 : n ≤ 9223372036854775807) (w : World) (htab : Lib.TabIs Tryz.prog w "internal/strconv.uint64pow10" .u64 Lib.pow10Tab) :
    Calls Tryz.prog 138 #[.int .i64 n] w fun e w' => e = .returned (.string ⟨(Lib.itoa n).toArray⟩) ∧ ∃ k os, w' = grow (w.drewN k) os := Any.strconv_Itoa Tryz.laysM171 n h0 h1 w htab
def Tryz.lays189_ren : Go.Shelf.Ren := ⟨fun | 189 => 72 | 125 => 137 | 257 => 136 | 128 => 228 | 129 => 229 | 294 => 219 | 295 => 220 | 296 => 221 | 297 => 222 | 298 => 223 | 299 => 224 | 216 => 225 | 300 => 226 | 301 => 227 | 328 => 277 | 329 => 278 | 330 => 279 | 331 => 280 | 332 => 281 | 215 => 282 | 343 => 321 | n => n, fun | 28 => 43 | 3 => 3 | 46 => 232 | 0 => 0 | 51 => 64 | 53 => 131 | 4 => 4 | 183 => 307 | 182 => 306 | 131 => 228 | 5 => 5 | 9 => 9 | 218 => 352 | 222 => 225 | 228 => 392 | 229 => 393 | n => n, fun | n => n⟩
theorem Tryz.lays189 : Go.Proofs.Lays.n189 Tryz.prog Tryz.lays189_ren := {
  mixed := by kernel_rfl
  f125 := Tryz.func137.trans (congrArg some (by kernel_rfl))
  f128 := Tryz.func228.trans (congrArg some (by kernel_rfl))
  f129 := Tryz.func229.trans (congrArg some (by kernel_rfl))
  f189 := Tryz.func72.trans (congrArg some (by kernel_rfl))
  f215 := Tryz.func282.trans (congrArg some (by kernel_rfl))
  f216 := Tryz.func225.trans (congrArg some (by kernel_rfl))
  f257 := Tryz.func136.trans (congrArg some (by kernel_rfl))
  f294 := Tryz.func219.trans (congrArg some (by kernel_rfl))
  f295 := Tryz.func220.trans (congrArg some (by kernel_rfl))
  f296 := Tryz.func221.trans (congrArg some (by kernel_rfl))
  f297 := Tryz.func222.trans (congrArg some (by kernel_rfl))
  f298 := Tryz.func223.trans (congrArg some (by kernel_rfl))
  f299 := Tryz.func224.trans (congrArg some (by kernel_rfl))
  f300 := Tryz.func226.trans (congrArg some (by kernel_rfl))
  f301 := Tryz.func227.trans (congrArg some (by kernel_rfl))
  f328 := Tryz.func277.trans (congrArg some (by kernel_rfl))
  f329 := Tryz.func278.trans (congrArg some (by kernel_rfl))
  f330 := Tryz.func279.trans (congrArg some (by kernel_rfl))
  f331 := Tryz.func280.trans (congrArg some (by kernel_rfl))
  f332 := Tryz.func281.trans (congrArg some (by kernel_rfl))
  f343 := Tryz.func321.trans (congrArg some (by kernel_rfl))
  t0 := Tryz.underlying0
  a0 := Tryz.isAgg0
  z0 := Tryz.sizeOf0
  v0 := Tryz.zeroValue0
  t3 := Tryz.underlying3
  a3 := Tryz.isAgg3
  z3 := Tryz.sizeOf3
  v3 := Tryz.zeroValue3
  t4 := Tryz.underlying4
  a4 := Tryz.isAgg4
  z4 := Tryz.sizeOf4
  v4 := Tryz.zeroValue4
  t5 := Tryz.underlying5
  a5 := Tryz.isAgg5
  z5 := Tryz.sizeOf5
  v5 := Tryz.zeroValue5
  t9 := Tryz.underlying9
  a9 := Tryz.isAgg9
  z9 := Tryz.sizeOf9
  v9 := Tryz.zeroValue9
  t28 := Tryz.underlying43
  a28 := Tryz.isAgg43
  z28 := Tryz.sizeOf43
  v28 := Tryz.zeroValue43
  t46 := Tryz.underlying232
  a46 := Tryz.isAgg232
  z46 := Tryz.sizeOf232
  v46 := Tryz.zeroValue232
  t51 := Tryz.underlying64
  a51 := Tryz.isAgg64
  z51 := Tryz.sizeOf64
  v51 := Tryz.zeroValue64
  t53 := Tryz.underlying131
  a53 := Tryz.isAgg131
  z53 := Tryz.sizeOf131
  v53 := Tryz.zeroValue131
  t131 := Tryz.underlying228
  a131 := Tryz.isAgg228
  z131 := Tryz.sizeOf228
  v131 := Tryz.zeroValue228
  t182 := Tryz.underlying306
  a182 := Tryz.isAgg306
  z182 := Tryz.sizeOf306
  v182 := Tryz.zeroValue306
  t183 := Tryz.underlying307
  a183 := Tryz.isAgg307
  z183 := Tryz.sizeOf307
  v183 := Tryz.zeroValue307
  t218 := Tryz.underlying352
  a218 := Tryz.isAgg352
  z218 := Tryz.sizeOf352
  v218 := Tryz.zeroValue352
  t222 := Tryz.underlying225
  a222 := Tryz.isAgg225
  z222 := Tryz.sizeOf225
  v222 := Tryz.zeroValue225
  t228 := Tryz.underlying392
  a228 := Tryz.isAgg392
  z228 := Tryz.sizeOf392
  v228 := Tryz.zeroValue392
  t229 := Tryz.underlying393
  a229 := Tryz.isAgg393
  z229 := Tryz.sizeOf393
  v229 := Tryz.zeroValue393 }
open Go.Sort Go.RowKit in
open Go.Sort Go.RowKit in
theorem Tryz.slices_Sort_int (blk off cap : Nat) (zs : List Int) (w : World) (hH : Holds (Value.int .i64) w blk off zs.toArray) (hblk : blk < w.heap.size) (hsz : zs.length < 4611686018427387904) :
    Calls Tryz.prog 72 #[.slice (some ⟨blk, off, none⟩) zs.length cap] w fun e w' =>
      e = .returned (.tuple #[]) ∧ ∃ n os, w' = grow (putRow (Value.int .i64) (Sort.ahead w n) blk off (zs.mergeSort fun x y => decide (x ≤ y)).toArray) os := Any.slices_Sort_int Tryz.lays189 blk off cap zs w hH hblk hsz
def Tryz.laysNm220_ren : Go.Shelf.Ren := ⟨fun | 20 => 73 | n => n, fun | 22 => 43 | 3 => 3 | 4 => 4 | 0 => 0 | n => n, fun | n => n⟩
theorem Tryz.laysNm220 : Go.Proofs.Lays2.n20 Tryz.prog Tryz.laysNm220_ren := {
  mixed := by kernel_rfl
  f20 := Tryz.func73.trans (congrArg some (by kernel_rfl))
  t0 := Tryz.underlying0
  a0 := Tryz.isAgg0
  z0 := Tryz.sizeOf0
  v0 := Tryz.zeroValue0
  t3 := Tryz.underlying3
  a3 := Tryz.isAgg3
  z3 := Tryz.sizeOf3
  v3 := Tryz.zeroValue3
  t4 := Tryz.underlying4
  a4 := Tryz.isAgg4
  z4 := Tryz.sizeOf4
  v4 := Tryz.zeroValue4
  t22 := Tryz.underlying43
  a22 := Tryz.isAgg43
  z22 := Tryz.sizeOf43
  v22 := Tryz.zeroValue43
  i3 := by kernel_rfl }
open Go.Sort Go.RowKit in
theorem Tryz.slices_Compact_int (blk off cap : Nat) (zs : List Int) (w : World) (hH : Holds (Value.int .i64) w blk off zs.toArray) (hsz : zs.length ≤ 9223372036854775807) (hcap : zs.length ≤ cap) :
    Calls Tryz.prog 73 #[.slice (some ⟨blk, off, none⟩) zs.length cap] w fun e w' => e = .returned (.slice (some ⟨blk, off, none⟩) (Lib.compact zs).length cap) ∧ ∃ q, w' = putRow (Value.int .i64) (Sort.ahead w q) blk off (Lib.compact zs ++ List.replicate (zs.length - (Lib.compact zs).length) 0).toArray := Any.slices_Compact_int Tryz.laysNm220 blk off cap zs w hH hsz hcap
open Go.Sort Go.RowKit in
theorem Tryz.slices_Compact_int_empty (a : Option Addr) (cap : Nat) (w : World) :
    Calls Tryz.prog 73 #[.slice a 0 cap] w fun e w' => e = .returned (.slice a 0 cap) ∧ w' = w := Any.slices_Compact_int_empty Tryz.laysNm220 a cap w
open Go.Sort Go.RowKit in
theorem Tryz.slices_Sort_int_none (p : Option Addr) (cap : Nat) (w : World) :
    Calls Tryz.prog 72 #[.slice p 0 cap] w fun e w' => e = .returned (.tuple #[]) ∧ w' = w := Any.slices_Sort_int_none Tryz.lays189 p cap w

end Go.Proofs

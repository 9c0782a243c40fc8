/-
  The library's sort at strings: the kit's contract, laid at this program (by the kit's tool, its plain mode).
-/
import Derived.Shelf.Sort.Plain
import Derived.Shelf.Slices.In.SortNone
import Derived.Test.YtfpoclhenokhhaaProg
namespace Go.Proofs
open Go.Shelf
def Try.lays190_ren : Go.Shelf.Ren := ⟨fun | 190 => 124 | 125 => 118 | 258 => 158 | 128 => 153 | 129 => 154 | 302 => 168 | 303 => 169 | 304 => 170 | 305 => 171 | 306 => 172 | 307 => 173 | 308 => 174 | 309 => 175 | 310 => 176 | 333 => 178 | 329 => 163 | 330 => 164 | 334 => 179 | 335 => 180 | 336 => 181 | 344 => 182 | n => n, fun | 31 => 164 | 9 => 9 | 3 => 3 | 46 => 186 | 0 => 0 | 51 => 221 | 53 => 95 | 4 => 4 | 183 => 214 | 182 => 213 | 131 => 218 | 5 => 5 | 218 => 230 | 222 => 234 | 228 => 243 | 229 => 244 | n => n, fun | n => n⟩
theorem Try.lays190 : Go.Proofs.Lays.n190 Try.prog Try.lays190_ren := {
  mixed := by kernel_rfl
  f125 := Try.func118.trans (congrArg some (by kernel_rfl))
  f128 := Try.func153.trans (congrArg some (by kernel_rfl))
  f129 := Try.func154.trans (congrArg some (by kernel_rfl))
  f190 := Try.func124.trans (congrArg some (by kernel_rfl))
  f258 := Try.func158.trans (congrArg some (by kernel_rfl))
  f302 := Try.func168.trans (congrArg some (by kernel_rfl))
  f303 := Try.func169.trans (congrArg some (by kernel_rfl))
  f304 := Try.func170.trans (congrArg some (by kernel_rfl))
  f305 := Try.func171.trans (congrArg some (by kernel_rfl))
  f306 := Try.func172.trans (congrArg some (by kernel_rfl))
  f307 := Try.func173.trans (congrArg some (by kernel_rfl))
  f308 := Try.func174.trans (congrArg some (by kernel_rfl))
  f309 := Try.func175.trans (congrArg some (by kernel_rfl))
  f310 := Try.func176.trans (congrArg some (by kernel_rfl))
  f329 := Try.func163.trans (congrArg some (by kernel_rfl))
  f330 := Try.func164.trans (congrArg some (by kernel_rfl))
  f333 := Try.func178.trans (congrArg some (by kernel_rfl))
  f334 := Try.func179.trans (congrArg some (by kernel_rfl))
  f335 := Try.func180.trans (congrArg some (by kernel_rfl))
  f336 := Try.func181.trans (congrArg some (by kernel_rfl))
  f344 := Try.func182.trans (congrArg some (by kernel_rfl))
  t0 := Try.underlying0
  a0 := Try.isAgg0
  z0 := Try.sizeOf0
  v0 := Try.zeroValue0
  t3 := Try.underlying3
  a3 := Try.isAgg3
  z3 := Try.sizeOf3
  v3 := Try.zeroValue3
  t4 := Try.underlying4
  a4 := Try.isAgg4
  z4 := Try.sizeOf4
  v4 := Try.zeroValue4
  t5 := Try.underlying5
  a5 := Try.isAgg5
  z5 := Try.sizeOf5
  v5 := Try.zeroValue5
  t9 := Try.underlying9
  a9 := Try.isAgg9
  z9 := Try.sizeOf9
  v9 := Try.zeroValue9
  t31 := Try.underlying164
  a31 := Try.isAgg164
  z31 := Try.sizeOf164
  v31 := Try.zeroValue164
  t46 := Try.underlying186
  a46 := Try.isAgg186
  z46 := Try.sizeOf186
  v46 := Try.zeroValue186
  t51 := Try.underlying221
  a51 := Try.isAgg221
  z51 := Try.sizeOf221
  v51 := Try.zeroValue221
  t53 := Try.underlying95
  a53 := Try.isAgg95
  z53 := Try.sizeOf95
  v53 := Try.zeroValue95
  t131 := Try.underlying218
  a131 := Try.isAgg218
  z131 := Try.sizeOf218
  v131 := Try.zeroValue218
  t182 := Try.underlying213
  a182 := Try.isAgg213
  z182 := Try.sizeOf213
  v182 := Try.zeroValue213
  t183 := Try.underlying214
  a183 := Try.isAgg214
  z183 := Try.sizeOf214
  v183 := Try.zeroValue214
  t218 := Try.underlying230
  a218 := Try.isAgg230
  z218 := Try.sizeOf230
  v218 := Try.zeroValue230
  t222 := Try.underlying234
  a222 := Try.isAgg234
  z222 := Try.sizeOf234
  v222 := Try.zeroValue234
  t228 := Try.underlying243
  a228 := Try.isAgg243
  z228 := Try.sizeOf243
  v228 := Try.zeroValue243
  t229 := Try.underlying244
  a229 := Try.isAgg244
  z229 := Try.sizeOf244
  v229 := Try.zeroValue244 }
open Go.Sort Go.RowKit in
theorem Try.slices_Sort_string (blk off cap : Nat) (ss : List (List UInt8)) (w : World) (hH : Holds encStr w blk off ss.toArray) (hblk : blk < w.heap.size) (hsz : ss.length < 4611686018427387904) :
    Calls Try.prog 124 #[.slice (some ⟨blk, off, none⟩) ss.length cap] w fun e w' =>
      e = .returned (.tuple #[]) ∧ ∃ n os, w' = grow (putRow encStr (Sort.ahead w n) blk off (ss.mergeSort fun x y => decide (x ≤ y)).toArray) os := Any.slices_Sort_string Try.lays190 blk off cap ss w hH hblk hsz
open Go.RowKit Go.Sort in
/-- .. and plain. (LAID: no walk: one application.) -/
theorem Try.slices_Sort_string_none (p : Option Addr) (cap : Nat) (w : World) :
    Calls Try.prog 124 #[.slice p 0 cap] w fun e w' => e = .returned (.tuple #[]) ∧ w' = w := Any.slices_Sort_string_none Try.lays190 p cap w
end Go.Proofs

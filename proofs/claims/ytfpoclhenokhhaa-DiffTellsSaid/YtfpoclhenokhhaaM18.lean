/-
  The library's sort by a function, at keys of three numbers: the kit's contract, laid at this program (by the kit's tool, its plain mode).
-/
import Derived.Shelf.SlGeneric
import Derived.Shelf.SlSortCmp.WholeK
import Derived.Shelf.SlSortCmp.NoneTotal
import Derived.Test.YtfpoclhenokhhaaProg
/-
  The library's sort by a function, at keys of three numbers: the kit's contract, laid at this program (by the kit's tool, its plain mode).
-/
namespace Go.Proofs
open Go.Shelf
def Try.sortKeys_ren : Go.Shelf.Ren := ⟨fun | 6 => 76 | 15 => 118 | 14 => 117 | 28 => 153 | 29 => 154 | 20 => 145 | 21 => 146 | 22 => 147 | 23 => 148 | 24 => 149 | 25 => 150 | 26 => 151 | 27 => 152 | 46 => 162 | 47 => 163 | 48 => 164 | 49 => 165 | 50 => 166 | 57 => 177 | n => n, fun | 22 => 126 | 24 => 128 | 25 => 131 | 3 => 3 | 39 => 186 | 0 => 0 | 53 => 221 | 55 => 95 | 4 => 4 | 46 => 214 | 45 => 213 | 50 => 218 | 5 => 5 | 9 => 9 | 66 => 230 | 70 => 234 | 76 => 243 | 77 => 244 | n => n, fun | n => n⟩
theorem Try.sortKeys : Go.Proofs.SlLaysF0.n6 Try.prog Try.sortKeys_ren := {
  mixed := by kernel_rfl
  f6 := ⟨Try.f76.name, by decide, Try.func76.trans (congrArg some (by kernel_rfl))⟩
  f14 := ⟨Try.f117.name, by decide, Try.func117.trans (congrArg some (by kernel_rfl))⟩
  f15 := Try.func118.trans (congrArg some (by kernel_rfl))
  f20 := ⟨Try.f145.name, by decide, Try.func145.trans (congrArg some (by kernel_rfl))⟩
  f21 := ⟨Try.f146.name, by decide, Try.func146.trans (congrArg some (by kernel_rfl))⟩
  f22 := ⟨Try.f147.name, by decide, Try.func147.trans (congrArg some (by kernel_rfl))⟩
  f23 := ⟨Try.f148.name, by decide, Try.func148.trans (congrArg some (by kernel_rfl))⟩
  f24 := ⟨Try.f149.name, by decide, Try.func149.trans (congrArg some (by kernel_rfl))⟩
  f25 := ⟨Try.f150.name, by decide, Try.func150.trans (congrArg some (by kernel_rfl))⟩
  f26 := ⟨Try.f151.name, by decide, Try.func151.trans (congrArg some (by kernel_rfl))⟩
  f27 := ⟨Try.f152.name, by decide, Try.func152.trans (congrArg some (by kernel_rfl))⟩
  f28 := Try.func153.trans (congrArg some (by kernel_rfl))
  f29 := Try.func154.trans (congrArg some (by kernel_rfl))
  f46 := ⟨Try.f162.name, by decide, Try.func162.trans (congrArg some (by kernel_rfl))⟩
  f47 := Try.func163.trans (congrArg some (by kernel_rfl))
  f48 := Try.func164.trans (congrArg some (by kernel_rfl))
  f49 := ⟨Try.f165.name, by decide, Try.func165.trans (congrArg some (by kernel_rfl))⟩
  f50 := ⟨Try.f166.name, by decide, Try.func166.trans (congrArg some (by kernel_rfl))⟩
  f57 := ⟨Try.f177.name, by decide, Try.func177.trans (congrArg some (by kernel_rfl))⟩
  t0 := Try.underlying0
  a0 := Try.isAgg0
  z0 := Try.sizeOf0
  v0 := Try.zeroValue0
  t3 := Try.underlying3
  a3 := Try.isAgg3
  z3 := Try.sizeOf3
  v3 := Try.zeroValue3
  t4 := Try.underlying4
  a4 := Try.isAgg4
  z4 := Try.sizeOf4
  v4 := Try.zeroValue4
  t5 := Try.underlying5
  a5 := Try.isAgg5
  z5 := Try.sizeOf5
  v5 := Try.zeroValue5
  t9 := Try.underlying9
  a9 := Try.isAgg9
  z9 := Try.sizeOf9
  v9 := Try.zeroValue9
  t22 := Try.underlying126
  a22 := Try.isAgg126
  z22 := Try.sizeOf126
  v22 := Try.zeroValue126
  t25 := Try.underlying131
  a25 := Try.isAgg131
  z25 := Try.sizeOf131
  v25 := Try.zeroValue131
  t39 := Try.underlying186
  a39 := Try.isAgg186
  z39 := Try.sizeOf186
  v39 := Try.zeroValue186
  t45 := Try.underlying213
  a45 := Try.isAgg213
  z45 := Try.sizeOf213
  v45 := Try.zeroValue213
  t46 := Try.underlying214
  a46 := Try.isAgg214
  z46 := Try.sizeOf214
  v46 := Try.zeroValue214
  t50 := Try.underlying218
  a50 := Try.isAgg218
  z50 := Try.sizeOf218
  v50 := Try.zeroValue218
  t53 := Try.underlying221
  a53 := Try.isAgg221
  z53 := Try.sizeOf221
  v53 := Try.zeroValue221
  t55 := Try.underlying95
  a55 := Try.isAgg95
  z55 := Try.sizeOf95
  v55 := Try.zeroValue95
  t66 := Try.underlying230
  a66 := Try.isAgg230
  z66 := Try.sizeOf230
  v66 := Try.zeroValue230
  t70 := Try.underlying234
  a70 := Try.isAgg234
  z70 := Try.sizeOf234
  v70 := Try.zeroValue234
  t76 := Try.underlying243
  a76 := Try.isAgg243
  z76 := Try.sizeOf243
  v76 := Try.zeroValue243
  t77 := Try.underlying244
  a77 := Try.isAgg244
  z77 := Try.sizeOf244
  v77 := Try.zeroValue244 }
end Go.Proofs

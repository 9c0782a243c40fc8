/-
  The library's sort by a function, at keys of three numbers: the kit's contract, laid at this program (by the kit's tool, its plain mode).
-/
import Derived.Shelf.SlGeneric
import Derived.Shelf.SlSortCmp.WholeK
import Derived.Shelf.SlSortCmp.NoneTotal
import Derived.Test.YtfpoclhenokhhaaDoorProg
/-
  The library's sort by a function, at keys of three numbers: the kit's contract, laid at this program (by the kit's tool, its plain mode).
-/
namespace Go.Proofs
open Go.Shelf
def Tryd.sortKeys_ren : Go.Shelf.Ren := ⟨fun | 6 => 23 | 15 => 55 | 14 => 54 | 28 => 90 | 29 => 91 | 20 => 82 | 21 => 83 | 22 => 84 | 23 => 85 | 24 => 86 | 25 => 87 | 26 => 88 | 27 => 89 | 46 => 96 | 47 => 97 | 48 => 98 | 49 => 99 | 50 => 100 | 57 => 101 | n => n, fun | 22 => 60 | 24 => 62 | 25 => 65 | 3 => 3 | 39 => 99 | 0 => 0 | 53 => 139 | 55 => 141 | 4 => 4 | 46 => 132 | 45 => 131 | 50 => 136 | 5 => 5 | 9 => 9 | 66 => 145 | 70 => 149 | 76 => 152 | 77 => 153 | n => n, fun | n => n⟩
theorem Tryd.sortKeys : Go.Proofs.SlLaysF0.n6 Tryd.prog Tryd.sortKeys_ren := {
  mixed := by kernel_rfl
  f6 := ⟨Tryd.f23.name, by decide, Tryd.func23.trans (congrArg some (by kernel_rfl))⟩
  f14 := ⟨Tryd.f54.name, by decide, Tryd.func54.trans (congrArg some (by kernel_rfl))⟩
  f15 := Tryd.func55.trans (congrArg some (by kernel_rfl))
  f20 := ⟨Tryd.f82.name, by decide, Tryd.func82.trans (congrArg some (by kernel_rfl))⟩
  f21 := ⟨Tryd.f83.name, by decide, Tryd.func83.trans (congrArg some (by kernel_rfl))⟩
  f22 := ⟨Tryd.f84.name, by decide, Tryd.func84.trans (congrArg some (by kernel_rfl))⟩
  f23 := ⟨Tryd.f85.name, by decide, Tryd.func85.trans (congrArg some (by kernel_rfl))⟩
  f24 := ⟨Tryd.f86.name, by decide, Tryd.func86.trans (congrArg some (by kernel_rfl))⟩
  f25 := ⟨Tryd.f87.name, by decide, Tryd.func87.trans (congrArg some (by kernel_rfl))⟩
  f26 := ⟨Tryd.f88.name, by decide, Tryd.func88.trans (congrArg some (by kernel_rfl))⟩
  f27 := ⟨Tryd.f89.name, by decide, Tryd.func89.trans (congrArg some (by kernel_rfl))⟩
  f28 := Tryd.func90.trans (congrArg some (by kernel_rfl))
  f29 := Tryd.func91.trans (congrArg some (by kernel_rfl))
  f46 := ⟨Tryd.f96.name, by decide, Tryd.func96.trans (congrArg some (by kernel_rfl))⟩
  f47 := Tryd.func97.trans (congrArg some (by kernel_rfl))
  f48 := Tryd.func98.trans (congrArg some (by kernel_rfl))
  f49 := ⟨Tryd.f99.name, by decide, Tryd.func99.trans (congrArg some (by kernel_rfl))⟩
  f50 := ⟨Tryd.f100.name, by decide, Tryd.func100.trans (congrArg some (by kernel_rfl))⟩
  f57 := ⟨Tryd.f101.name, by decide, Tryd.func101.trans (congrArg some (by kernel_rfl))⟩
  t0 := Tryd.underlying0
  a0 := Tryd.isAgg0
  z0 := Tryd.sizeOf0
  v0 := Tryd.zeroValue0
  t3 := Tryd.underlying3
  a3 := Tryd.isAgg3
  z3 := Tryd.sizeOf3
  v3 := Tryd.zeroValue3
  t4 := Tryd.underlying4
  a4 := Tryd.isAgg4
  z4 := Tryd.sizeOf4
  v4 := Tryd.zeroValue4
  t5 := Tryd.underlying5
  a5 := Tryd.isAgg5
  z5 := Tryd.sizeOf5
  v5 := Tryd.zeroValue5
  t9 := Tryd.underlying9
  a9 := Tryd.isAgg9
  z9 := Tryd.sizeOf9
  v9 := Tryd.zeroValue9
  t22 := Tryd.underlying60
  a22 := Tryd.isAgg60
  z22 := Tryd.sizeOf60
  v22 := Tryd.zeroValue60
  t25 := Tryd.underlying65
  a25 := Tryd.isAgg65
  z25 := Tryd.sizeOf65
  v25 := Tryd.zeroValue65
  t39 := Tryd.underlying99
  a39 := Tryd.isAgg99
  z39 := Tryd.sizeOf99
  v39 := Tryd.zeroValue99
  t45 := Tryd.underlying131
  a45 := Tryd.isAgg131
  z45 := Tryd.sizeOf131
  v45 := Tryd.zeroValue131
  t46 := Tryd.underlying132
  a46 := Tryd.isAgg132
  z46 := Tryd.sizeOf132
  v46 := Tryd.zeroValue132
  t50 := Tryd.underlying136
  a50 := Tryd.isAgg136
  z50 := Tryd.sizeOf136
  v50 := Tryd.zeroValue136
  t53 := Tryd.underlying139
  a53 := Tryd.isAgg139
  z53 := Tryd.sizeOf139
  v53 := Tryd.zeroValue139
  t55 := Tryd.underlying141
  a55 := Tryd.isAgg141
  z55 := Tryd.sizeOf141
  v55 := Tryd.zeroValue141
  t66 := Tryd.underlying145
  a66 := Tryd.isAgg145
  z66 := Tryd.sizeOf145
  v66 := Tryd.zeroValue145
  t70 := Tryd.underlying149
  a70 := Tryd.isAgg149
  z70 := Tryd.sizeOf149
  v70 := Tryd.zeroValue149
  t76 := Tryd.underlying152
  a76 := Tryd.isAgg152
  z76 := Tryd.sizeOf152
  v76 := Tryd.zeroValue152
  t77 := Tryd.underlying153
  a77 := Tryd.isAgg153
  z77 := Tryd.sizeOf153
  v77 := Tryd.zeroValue153 }
end Go.Proofs

/-
  DERIVED: THE SHELF's CONTRACTS AT THIS DUMP, IN PLAIN WORDS (tools/lay-plain.mjs out of 'ZzShelfSort.lean', which tools/lay-shelf.mjs wrote): THE SAME DECLARATIONS UNDER THE SAME NAMES: 'import', 'namespace', 'open', 'def', 'theorem' AND NOTHING ELSE: no command of the shelf's: FOR A HAND-IN. Each laying: the table of numbers ('.._ren') and one theorem, a field a fact of the dump's own or the kernel's comparison; each contract: ONE APPLICATION.
-/
import Derived.Shelf.SlGeneric
import Derived.Shelf.SlSortCmp.NoneTotal
import Derived.Ground.SlsfProg
import Derived.Test.YtcfcmalaabmceaaDoorProg
namespace Go.Proofs
open Go.Shelf
def Tryd.sortS_ren : Go.Shelf.Ren := ⟨fun | 6 => 71 | 15 => 77 | 14 => 76 | 28 => 90 | 29 => 91 | 20 => 82 | 21 => 83 | 22 => 84 | 23 => 85 | 24 => 86 | 25 => 87 | 26 => 88 | 27 => 89 | 46 => 95 | 47 => 96 | 48 => 97 | 49 => 98 | 50 => 99 | 57 => 100 | n => n, fun | 22 => 52 | 24 => 32 | 25 => 138 | 3 => 3 | 39 => 141 | 0 => 0 | 53 => 31 | 55 => 91 | 4 => 4 | 46 => 151 | 45 => 150 | 50 => 135 | 5 => 5 | 9 => 9 | 66 => 158 | 70 => 162 | 76 => 164 | 77 => 165 | n => n, fun | n => n⟩
theorem Tryd.sortS : Go.Proofs.SlLaysF.n6 Tryd.prog Tryd.sortS_ren := {
  mixed := by kernel_rfl
  f6 := ⟨Tryd.f71.name, by decide, Tryd.func71.trans (congrArg some (by kernel_rfl))⟩
  f14 := ⟨Tryd.f76.name, by decide, Tryd.func76.trans (congrArg some (by kernel_rfl))⟩
  f15 := Tryd.func77.trans (congrArg some (by kernel_rfl))
  f20 := ⟨Tryd.f82.name, by decide, Tryd.func82.trans (congrArg some (by kernel_rfl))⟩
  f21 := ⟨Tryd.f83.name, by decide, Tryd.func83.trans (congrArg some (by kernel_rfl))⟩
  f22 := ⟨Tryd.f84.name, by decide, Tryd.func84.trans (congrArg some (by kernel_rfl))⟩
  f23 := ⟨Tryd.f85.name, by decide, Tryd.func85.trans (congrArg some (by kernel_rfl))⟩
  f24 := ⟨Tryd.f86.name, by decide, Tryd.func86.trans (congrArg some (by kernel_rfl))⟩
  f25 := ⟨Tryd.f87.name, by decide, Tryd.func87.trans (congrArg some (by kernel_rfl))⟩
  f26 := ⟨Tryd.f88.name, by decide, Tryd.func88.trans (congrArg some (by kernel_rfl))⟩
  f27 := ⟨Tryd.f89.name, by decide, Tryd.func89.trans (congrArg some (by kernel_rfl))⟩
  f28 := Tryd.func90.trans (congrArg some (by kernel_rfl))
  f29 := Tryd.func91.trans (congrArg some (by kernel_rfl))
  f46 := ⟨Tryd.f95.name, by decide, Tryd.func95.trans (congrArg some (by kernel_rfl))⟩
  f47 := Tryd.func96.trans (congrArg some (by kernel_rfl))
  f48 := Tryd.func97.trans (congrArg some (by kernel_rfl))
  f49 := ⟨Tryd.f98.name, by decide, Tryd.func98.trans (congrArg some (by kernel_rfl))⟩
  f50 := ⟨Tryd.f99.name, by decide, Tryd.func99.trans (congrArg some (by kernel_rfl))⟩
  f57 := ⟨Tryd.f100.name, by decide, Tryd.func100.trans (congrArg some (by kernel_rfl))⟩
  t0 := Tryd.underlying0
  a0 := Tryd.isAgg0
  z0 := Tryd.sizeOf0
  v0 := Tryd.zeroValue0
  t3 := Tryd.underlying3
  a3 := Tryd.isAgg3
  z3 := Tryd.sizeOf3
  v3 := Tryd.zeroValue3
  t4 := Tryd.underlying4
  a4 := Tryd.isAgg4
  z4 := Tryd.sizeOf4
  v4 := Tryd.zeroValue4
  t5 := Tryd.underlying5
  a5 := Tryd.isAgg5
  z5 := Tryd.sizeOf5
  v5 := Tryd.zeroValue5
  t9 := Tryd.underlying9
  a9 := Tryd.isAgg9
  z9 := Tryd.sizeOf9
  v9 := Tryd.zeroValue9
  t22 := Tryd.underlying52
  a22 := Tryd.isAgg52
  z22 := Tryd.sizeOf52
  v22 := Tryd.zeroValue52
  a24 := Tryd.isAgg32
  z24 := Tryd.sizeOf32
  t25 := Tryd.underlying138
  a25 := Tryd.isAgg138
  z25 := Tryd.sizeOf138
  v25 := Tryd.zeroValue138
  t39 := Tryd.underlying141
  a39 := Tryd.isAgg141
  z39 := Tryd.sizeOf141
  v39 := Tryd.zeroValue141
  t45 := Tryd.underlying150
  a45 := Tryd.isAgg150
  z45 := Tryd.sizeOf150
  v45 := Tryd.zeroValue150
  t46 := Tryd.underlying151
  a46 := Tryd.isAgg151
  z46 := Tryd.sizeOf151
  v46 := Tryd.zeroValue151
  t50 := Tryd.underlying135
  a50 := Tryd.isAgg135
  z50 := Tryd.sizeOf135
  v50 := Tryd.zeroValue135
  t53 := Tryd.underlying31
  a53 := Tryd.isAgg31
  z53 := Tryd.sizeOf31
  v53 := Tryd.zeroValue31
  t55 := Tryd.underlying91
  a55 := Tryd.isAgg91
  z55 := Tryd.sizeOf91
  v55 := Tryd.zeroValue91
  t66 := Tryd.underlying158
  a66 := Tryd.isAgg158
  z66 := Tryd.sizeOf158
  v66 := Tryd.zeroValue158
  t70 := Tryd.underlying162
  a70 := Tryd.isAgg162
  z70 := Tryd.sizeOf162
  v70 := Tryd.zeroValue162
  t76 := Tryd.underlying164
  a76 := Tryd.isAgg164
  z76 := Tryd.sizeOf164
  v76 := Tryd.zeroValue164
  t77 := Tryd.underlying165
  a77 := Tryd.isAgg165
  z77 := Tryd.sizeOf165
  v77 := Tryd.zeroValue165 }
end Go.Proofs

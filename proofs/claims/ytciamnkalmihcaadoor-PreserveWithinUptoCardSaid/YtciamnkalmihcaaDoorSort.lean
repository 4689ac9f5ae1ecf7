/-
  DERIVED: THE SHELF's CONTRACTS AT THIS DUMP, IN PLAIN WORDS (tools/lay-plain.mjs out of 'ZzShelfSort.lean', which tools/lay-shelf.mjs wrote): THE SAME DECLARATIONS UNDER THE SAME NAMES: 'import', 'namespace', 'open', 'def', 'theorem' AND NOTHING ELSE: no command of the shelf's: FOR A HAND-IN. Each laying: the table of numbers ('.._ren') and one theorem, a field a fact of the dump's own or the kernel's comparison; each contract: ONE APPLICATION.
-/
import Derived.Shelf.SlGeneric
import Derived.Shelf.SlSortCmp.NoneTotal
import Derived.Ground.SlsfProg
import Derived.Test.YtciamnkalmihcaaDoorProg
namespace Go.Proofs
open Go.Shelf
def Tryd.sortS_ren : Go.Shelf.Ren := ⟨fun | 6 => 65 | 15 => 73 | 14 => 72 | 28 => 85 | 29 => 86 | 20 => 77 | 21 => 78 | 22 => 79 | 23 => 80 | 24 => 81 | 25 => 82 | 26 => 83 | 27 => 84 | 46 => 89 | 47 => 90 | 48 => 91 | 49 => 92 | 50 => 93 | 57 => 94 | n => n, fun | 22 => 52 | 24 => 25 | 25 => 93 | 3 => 3 | 39 => 71 | 0 => 0 | 53 => 23 | 55 => 96 | 4 => 4 | 46 => 105 | 45 => 104 | 50 => 44 | 5 => 5 | 9 => 9 | 66 => 111 | 70 => 115 | 76 => 117 | 77 => 118 | n => n, fun | n => n⟩
theorem Tryd.sortS : Go.Proofs.SlLaysF.n6 Tryd.prog Tryd.sortS_ren := {
  mixed := by kernel_rfl
  f6 := ⟨Tryd.f65.name, by decide, Tryd.func65.trans (congrArg some (by kernel_rfl))⟩
  f14 := ⟨Tryd.f72.name, by decide, Tryd.func72.trans (congrArg some (by kernel_rfl))⟩
  f15 := Tryd.func73.trans (congrArg some (by kernel_rfl))
  f20 := ⟨Tryd.f77.name, by decide, Tryd.func77.trans (congrArg some (by kernel_rfl))⟩
  f21 := ⟨Tryd.f78.name, by decide, Tryd.func78.trans (congrArg some (by kernel_rfl))⟩
  f22 := ⟨Tryd.f79.name, by decide, Tryd.func79.trans (congrArg some (by kernel_rfl))⟩
  f23 := ⟨Tryd.f80.name, by decide, Tryd.func80.trans (congrArg some (by kernel_rfl))⟩
  f24 := ⟨Tryd.f81.name, by decide, Tryd.func81.trans (congrArg some (by kernel_rfl))⟩
  f25 := ⟨Tryd.f82.name, by decide, Tryd.func82.trans (congrArg some (by kernel_rfl))⟩
  f26 := ⟨Tryd.f83.name, by decide, Tryd.func83.trans (congrArg some (by kernel_rfl))⟩
  f27 := ⟨Tryd.f84.name, by decide, Tryd.func84.trans (congrArg some (by kernel_rfl))⟩
  f28 := Tryd.func85.trans (congrArg some (by kernel_rfl))
  f29 := Tryd.func86.trans (congrArg some (by kernel_rfl))
  f46 := ⟨Tryd.f89.name, by decide, Tryd.func89.trans (congrArg some (by kernel_rfl))⟩
  f47 := Tryd.func90.trans (congrArg some (by kernel_rfl))
  f48 := Tryd.func91.trans (congrArg some (by kernel_rfl))
  f49 := ⟨Tryd.f92.name, by decide, Tryd.func92.trans (congrArg some (by kernel_rfl))⟩
  f50 := ⟨Tryd.f93.name, by decide, Tryd.func93.trans (congrArg some (by kernel_rfl))⟩
  f57 := ⟨Tryd.f94.name, by decide, Tryd.func94.trans (congrArg some (by kernel_rfl))⟩
  t0 := Tryd.underlying0
  a0 := Tryd.isAgg0
  z0 := Tryd.sizeOf0
  v0 := Tryd.zeroValue0
  t3 := Tryd.underlying3
  a3 := Tryd.isAgg3
  z3 := Tryd.sizeOf3
  v3 := Tryd.zeroValue3
  t4 := Tryd.underlying4
  a4 := Tryd.isAgg4
  z4 := Tryd.sizeOf4
  v4 := Tryd.zeroValue4
  t5 := Tryd.underlying5
  a5 := Tryd.isAgg5
  z5 := Tryd.sizeOf5
  v5 := Tryd.zeroValue5
  t9 := Tryd.underlying9
  a9 := Tryd.isAgg9
  z9 := Tryd.sizeOf9
  v9 := Tryd.zeroValue9
  t22 := Tryd.underlying52
  a22 := Tryd.isAgg52
  z22 := Tryd.sizeOf52
  v22 := Tryd.zeroValue52
  a24 := Tryd.isAgg25
  z24 := Tryd.sizeOf25
  t25 := Tryd.underlying93
  a25 := Tryd.isAgg93
  z25 := Tryd.sizeOf93
  v25 := Tryd.zeroValue93
  t39 := Tryd.underlying71
  a39 := Tryd.isAgg71
  z39 := Tryd.sizeOf71
  v39 := Tryd.zeroValue71
  t45 := Tryd.underlying104
  a45 := Tryd.isAgg104
  z45 := Tryd.sizeOf104
  v45 := Tryd.zeroValue104
  t46 := Tryd.underlying105
  a46 := Tryd.isAgg105
  z46 := Tryd.sizeOf105
  v46 := Tryd.zeroValue105
  t50 := Tryd.underlying44
  a50 := Tryd.isAgg44
  z50 := Tryd.sizeOf44
  v50 := Tryd.zeroValue44
  t53 := Tryd.underlying23
  a53 := Tryd.isAgg23
  z53 := Tryd.sizeOf23
  v53 := Tryd.zeroValue23
  t55 := Tryd.underlying96
  a55 := Tryd.isAgg96
  z55 := Tryd.sizeOf96
  v55 := Tryd.zeroValue96
  t66 := Tryd.underlying111
  a66 := Tryd.isAgg111
  z66 := Tryd.sizeOf111
  v66 := Tryd.zeroValue111
  t70 := Tryd.underlying115
  a70 := Tryd.isAgg115
  z70 := Tryd.sizeOf115
  v70 := Tryd.zeroValue115
  t76 := Tryd.underlying117
  a76 := Tryd.isAgg117
  z76 := Tryd.sizeOf117
  v76 := Tryd.zeroValue117
  t77 := Tryd.underlying118
  a77 := Tryd.isAgg118
  z77 := Tryd.sizeOf118
  v77 := Tryd.zeroValue118 }
end Go.Proofs

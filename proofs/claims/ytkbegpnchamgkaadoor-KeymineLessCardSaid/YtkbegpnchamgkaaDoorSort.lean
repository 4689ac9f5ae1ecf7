/-
  DERIVED: THE SHELF's CONTRACTS AT THIS DUMP, IN PLAIN WORDS (tools/lay-plain.mjs out of 'ZzShelfSort.lean', which tools/lay-shelf.mjs wrote): THE SAME DECLARATIONS UNDER THE SAME NAMES: 'import', 'namespace', 'open', 'def', 'theorem' AND NOTHING ELSE: no command of the shelf's: FOR A HAND-IN. Each laying: the table of numbers ('.._ren') and one theorem, a field a fact of the dump's own or the kernel's comparison; each contract: ONE APPLICATION.
-/
import Derived.Shelf.SlGeneric
import Derived.Shelf.SlSortCmp.NoneTotal
import Derived.Ground.SlsfProg
import Derived.Test.YtkbegpnchamgkaaDoorProg
namespace Go.Proofs
open Go.Shelf
def Tryd.sortS_ren : Go.Shelf.Ren := ⟨fun | 6 => 63 | 15 => 79 | 14 => 78 | 28 => 100 | 29 => 101 | 20 => 92 | 21 => 93 | 22 => 94 | 23 => 95 | 24 => 96 | 25 => 97 | 26 => 98 | 27 => 99 | 46 => 107 | 47 => 108 | 48 => 109 | 49 => 110 | 50 => 111 | 57 => 113 | n => n, fun | 22 => 35 | 24 => 33 | 25 => 112 | 3 => 3 | 39 => 119 | 0 => 0 | 53 => 32 | 55 => 120 | 4 => 4 | 46 => 133 | 45 => 132 | 50 => 88 | 5 => 5 | 9 => 9 | 66 => 142 | 70 => 146 | 76 => 148 | 77 => 149 | n => n, fun | n => n⟩
theorem Tryd.sortS : Go.Proofs.SlLaysF.n6 Tryd.prog Tryd.sortS_ren := {
  mixed := by kernel_rfl
  f6 := ⟨Tryd.f63.name, by decide, Tryd.func63.trans (congrArg some (by kernel_rfl))⟩
  f14 := ⟨Tryd.f78.name, by decide, Tryd.func78.trans (congrArg some (by kernel_rfl))⟩
  f15 := Tryd.func79.trans (congrArg some (by kernel_rfl))
  f20 := ⟨Tryd.f92.name, by decide, Tryd.func92.trans (congrArg some (by kernel_rfl))⟩
  f21 := ⟨Tryd.f93.name, by decide, Tryd.func93.trans (congrArg some (by kernel_rfl))⟩
  f22 := ⟨Tryd.f94.name, by decide, Tryd.func94.trans (congrArg some (by kernel_rfl))⟩
  f23 := ⟨Tryd.f95.name, by decide, Tryd.func95.trans (congrArg some (by kernel_rfl))⟩
  f24 := ⟨Tryd.f96.name, by decide, Tryd.func96.trans (congrArg some (by kernel_rfl))⟩
  f25 := ⟨Tryd.f97.name, by decide, Tryd.func97.trans (congrArg some (by kernel_rfl))⟩
  f26 := ⟨Tryd.f98.name, by decide, Tryd.func98.trans (congrArg some (by kernel_rfl))⟩
  f27 := ⟨Tryd.f99.name, by decide, Tryd.func99.trans (congrArg some (by kernel_rfl))⟩
  f28 := Tryd.func100.trans (congrArg some (by kernel_rfl))
  f29 := Tryd.func101.trans (congrArg some (by kernel_rfl))
  f46 := ⟨Tryd.f107.name, by decide, Tryd.func107.trans (congrArg some (by kernel_rfl))⟩
  f47 := Tryd.func108.trans (congrArg some (by kernel_rfl))
  f48 := Tryd.func109.trans (congrArg some (by kernel_rfl))
  f49 := ⟨Tryd.f110.name, by decide, Tryd.func110.trans (congrArg some (by kernel_rfl))⟩
  f50 := ⟨Tryd.f111.name, by decide, Tryd.func111.trans (congrArg some (by kernel_rfl))⟩
  f57 := ⟨Tryd.f113.name, by decide, Tryd.func113.trans (congrArg some (by kernel_rfl))⟩
  t0 := Tryd.underlying0
  a0 := Tryd.isAgg0
  z0 := Tryd.sizeOf0
  v0 := Tryd.zeroValue0
  t3 := Tryd.underlying3
  a3 := Tryd.isAgg3
  z3 := Tryd.sizeOf3
  v3 := Tryd.zeroValue3
  t4 := Tryd.underlying4
  a4 := Tryd.isAgg4
  z4 := Tryd.sizeOf4
  v4 := Tryd.zeroValue4
  t5 := Tryd.underlying5
  a5 := Tryd.isAgg5
  z5 := Tryd.sizeOf5
  v5 := Tryd.zeroValue5
  t9 := Tryd.underlying9
  a9 := Tryd.isAgg9
  z9 := Tryd.sizeOf9
  v9 := Tryd.zeroValue9
  t22 := Tryd.underlying35
  a22 := Tryd.isAgg35
  z22 := Tryd.sizeOf35
  v22 := Tryd.zeroValue35
  a24 := Tryd.isAgg33
  z24 := Tryd.sizeOf33
  t25 := Tryd.underlying112
  a25 := Tryd.isAgg112
  z25 := Tryd.sizeOf112
  v25 := Tryd.zeroValue112
  t39 := Tryd.underlying119
  a39 := Tryd.isAgg119
  z39 := Tryd.sizeOf119
  v39 := Tryd.zeroValue119
  t45 := Tryd.underlying132
  a45 := Tryd.isAgg132
  z45 := Tryd.sizeOf132
  v45 := Tryd.zeroValue132
  t46 := Tryd.underlying133
  a46 := Tryd.isAgg133
  z46 := Tryd.sizeOf133
  v46 := Tryd.zeroValue133
  t50 := Tryd.underlying88
  a50 := Tryd.isAgg88
  z50 := Tryd.sizeOf88
  v50 := Tryd.zeroValue88
  t53 := Tryd.underlying32
  a53 := Tryd.isAgg32
  z53 := Tryd.sizeOf32
  v53 := Tryd.zeroValue32
  t55 := Tryd.underlying120
  a55 := Tryd.isAgg120
  z55 := Tryd.sizeOf120
  v55 := Tryd.zeroValue120
  t66 := Tryd.underlying142
  a66 := Tryd.isAgg142
  z66 := Tryd.sizeOf142
  v66 := Tryd.zeroValue142
  t70 := Tryd.underlying146
  a70 := Tryd.isAgg146
  z70 := Tryd.sizeOf146
  v70 := Tryd.zeroValue146
  t76 := Tryd.underlying148
  a76 := Tryd.isAgg148
  z76 := Tryd.sizeOf148
  v76 := Tryd.zeroValue148
  t77 := Tryd.underlying149
  a77 := Tryd.isAgg149
  z77 := Tryd.sizeOf149
  v77 := Tryd.zeroValue149 }
end Go.Proofs

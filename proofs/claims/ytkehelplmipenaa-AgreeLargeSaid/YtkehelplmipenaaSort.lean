/-
  DERIVED: THE SHELF's CONTRACTS AT THIS DUMP, IN PLAIN WORDS (tools/lay-plain.mjs out of 'ZzShelfSort.lean', which tools/lay-shelf.mjs wrote): THE SAME DECLARATIONS UNDER THE SAME NAMES: 'import', 'namespace', 'open', 'def', 'theorem' AND NOTHING ELSE: no command of the shelf's: FOR A HAND-IN. Each laying: the table of numbers ('.._ren') and one theorem, a field a fact of the dump's own or the kernel's comparison; each contract: ONE APPLICATION.
-/
import Derived.Shelf.SlGeneric
import Derived.Shelf.SlSortCmp.NoneTotal
import Derived.Ground.SlsfProg
import Derived.Test.YtkehelplmipenaaProg
namespace Go.Proofs
open Go.Shelf
def Try.sortS_ren : Go.Shelf.Ren := ⟨fun | 6 => 59 | 15 => 80 | 14 => 79 | 28 => 108 | 29 => 109 | 20 => 100 | 21 => 101 | 22 => 102 | 23 => 103 | 24 => 104 | 25 => 105 | 26 => 106 | 27 => 107 | 46 => 117 | 47 => 118 | 48 => 119 | 49 => 120 | 50 => 121 | 57 => 122 | n => n, fun | 22 => 37 | 24 => 33 | 25 => 90 | 3 => 3 | 39 => 106 | 0 => 0 | 53 => 32 | 55 => 127 | 4 => 4 | 46 => 121 | 45 => 120 | 50 => 87 | 5 => 5 | 9 => 9 | 66 => 133 | 70 => 137 | 76 => 139 | 77 => 140 | n => n, fun | n => n⟩
theorem Try.sortS : Go.Proofs.SlLaysF.n6 Try.prog Try.sortS_ren := {
  mixed := by kernel_rfl
  f6 := ⟨Try.f59.name, by decide, Try.func59.trans (congrArg some (by kernel_rfl))⟩
  f14 := ⟨Try.f79.name, by decide, Try.func79.trans (congrArg some (by kernel_rfl))⟩
  f15 := Try.func80.trans (congrArg some (by kernel_rfl))
  f20 := ⟨Try.f100.name, by decide, Try.func100.trans (congrArg some (by kernel_rfl))⟩
  f21 := ⟨Try.f101.name, by decide, Try.func101.trans (congrArg some (by kernel_rfl))⟩
  f22 := ⟨Try.f102.name, by decide, Try.func102.trans (congrArg some (by kernel_rfl))⟩
  f23 := ⟨Try.f103.name, by decide, Try.func103.trans (congrArg some (by kernel_rfl))⟩
  f24 := ⟨Try.f104.name, by decide, Try.func104.trans (congrArg some (by kernel_rfl))⟩
  f25 := ⟨Try.f105.name, by decide, Try.func105.trans (congrArg some (by kernel_rfl))⟩
  f26 := ⟨Try.f106.name, by decide, Try.func106.trans (congrArg some (by kernel_rfl))⟩
  f27 := ⟨Try.f107.name, by decide, Try.func107.trans (congrArg some (by kernel_rfl))⟩
  f28 := Try.func108.trans (congrArg some (by kernel_rfl))
  f29 := Try.func109.trans (congrArg some (by kernel_rfl))
  f46 := ⟨Try.f117.name, by decide, Try.func117.trans (congrArg some (by kernel_rfl))⟩
  f47 := Try.func118.trans (congrArg some (by kernel_rfl))
  f48 := Try.func119.trans (congrArg some (by kernel_rfl))
  f49 := ⟨Try.f120.name, by decide, Try.func120.trans (congrArg some (by kernel_rfl))⟩
  f50 := ⟨Try.f121.name, by decide, Try.func121.trans (congrArg some (by kernel_rfl))⟩
  f57 := ⟨Try.f122.name, by decide, Try.func122.trans (congrArg some (by kernel_rfl))⟩
  t0 := Try.underlying0
  a0 := Try.isAgg0
  z0 := Try.sizeOf0
  v0 := Try.zeroValue0
  t3 := Try.underlying3
  a3 := Try.isAgg3
  z3 := Try.sizeOf3
  v3 := Try.zeroValue3
  t4 := Try.underlying4
  a4 := Try.isAgg4
  z4 := Try.sizeOf4
  v4 := Try.zeroValue4
  t5 := Try.underlying5
  a5 := Try.isAgg5
  z5 := Try.sizeOf5
  v5 := Try.zeroValue5
  t9 := Try.underlying9
  a9 := Try.isAgg9
  z9 := Try.sizeOf9
  v9 := Try.zeroValue9
  t22 := Try.underlying37
  a22 := Try.isAgg37
  z22 := Try.sizeOf37
  v22 := Try.zeroValue37
  a24 := Try.isAgg33
  z24 := Try.sizeOf33
  t25 := Try.underlying90
  a25 := Try.isAgg90
  z25 := Try.sizeOf90
  v25 := Try.zeroValue90
  t39 := Try.underlying106
  a39 := Try.isAgg106
  z39 := Try.sizeOf106
  v39 := Try.zeroValue106
  t45 := Try.underlying120
  a45 := Try.isAgg120
  z45 := Try.sizeOf120
  v45 := Try.zeroValue120
  t46 := Try.underlying121
  a46 := Try.isAgg121
  z46 := Try.sizeOf121
  v46 := Try.zeroValue121
  t50 := Try.underlying87
  a50 := Try.isAgg87
  z50 := Try.sizeOf87
  v50 := Try.zeroValue87
  t53 := Try.underlying32
  a53 := Try.isAgg32
  z53 := Try.sizeOf32
  v53 := Try.zeroValue32
  t55 := Try.underlying127
  a55 := Try.isAgg127
  z55 := Try.sizeOf127
  v55 := Try.zeroValue127
  t66 := Try.underlying133
  a66 := Try.isAgg133
  z66 := Try.sizeOf133
  v66 := Try.zeroValue133
  t70 := Try.underlying137
  a70 := Try.isAgg137
  z70 := Try.sizeOf137
  v70 := Try.zeroValue137
  t76 := Try.underlying139
  a76 := Try.isAgg139
  z76 := Try.sizeOf139
  v76 := Try.zeroValue139
  t77 := Try.underlying140
  a77 := Try.isAgg140
  z77 := Try.sizeOf140
  v77 := Try.zeroValue140 }
end Go.Proofs

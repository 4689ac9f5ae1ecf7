/-
  DERIVED: THE SHELF's CONTRACTS AT THIS DUMP, IN PLAIN WORDS (tools/lay-plain.mjs out of 'ZzShelfSort.lean', which tools/lay-shelf.mjs wrote): THE SAME DECLARATIONS UNDER THE SAME NAMES: 'import', 'namespace', 'open', 'def', 'theorem' AND NOTHING ELSE: no command of the shelf's: FOR A HAND-IN. Each laying: the table of numbers ('.._ren') and one theorem, a field a fact of the dump's own or the kernel's comparison; each contract: ONE APPLICATION.
-/
import Derived.Shelf.SlGeneric
import Derived.Shelf.SlSortCmp.NoneTotal
import Derived.Ground.SlsfProg
import Derived.Test.YtalejolehccclaaGreatDoorProg
namespace Go.Proofs
open Go.Shelf
def Tryz.sortS_ren : Go.Shelf.Ren := ⟨fun | 6 => 95 | 15 => 138 | 14 => 137 | 28 => 185 | 29 => 186 | 20 => 177 | 21 => 178 | 22 => 179 | 23 => 180 | 24 => 181 | 25 => 182 | 26 => 183 | 27 => 184 | 46 => 204 | 47 => 205 | 48 => 206 | 49 => 207 | 50 => 208 | 57 => 216 | n => n, fun | 22 => 38 | 24 => 58 | 25 => 149 | 3 => 3 | 39 => 199 | 0 => 0 | 53 => 57 | 55 => 170 | 4 => 4 | 46 => 243 | 45 => 242 | 50 => 100 | 5 => 5 | 9 => 9 | 66 => 261 | 70 => 265 | 76 => 274 | 77 => 275 | n => n, fun | n => n⟩
theorem Tryz.sortS : Go.Proofs.SlLaysF.n6 Tryz.prog Tryz.sortS_ren := {
  mixed := by kernel_rfl
  f6 := ⟨Tryz.f95.name, by decide, Tryz.func95.trans (congrArg some (by kernel_rfl))⟩
  f14 := ⟨Tryz.f137.name, by decide, Tryz.func137.trans (congrArg some (by kernel_rfl))⟩
  f15 := Tryz.func138.trans (congrArg some (by kernel_rfl))
  f20 := ⟨Tryz.f177.name, by decide, Tryz.func177.trans (congrArg some (by kernel_rfl))⟩
  f21 := ⟨Tryz.f178.name, by decide, Tryz.func178.trans (congrArg some (by kernel_rfl))⟩
  f22 := ⟨Tryz.f179.name, by decide, Tryz.func179.trans (congrArg some (by kernel_rfl))⟩
  f23 := ⟨Tryz.f180.name, by decide, Tryz.func180.trans (congrArg some (by kernel_rfl))⟩
  f24 := ⟨Tryz.f181.name, by decide, Tryz.func181.trans (congrArg some (by kernel_rfl))⟩
  f25 := ⟨Tryz.f182.name, by decide, Tryz.func182.trans (congrArg some (by kernel_rfl))⟩
  f26 := ⟨Tryz.f183.name, by decide, Tryz.func183.trans (congrArg some (by kernel_rfl))⟩
  f27 := ⟨Tryz.f184.name, by decide, Tryz.func184.trans (congrArg some (by kernel_rfl))⟩
  f28 := Tryz.func185.trans (congrArg some (by kernel_rfl))
  f29 := Tryz.func186.trans (congrArg some (by kernel_rfl))
  f46 := ⟨Tryz.f204.name, by decide, Tryz.func204.trans (congrArg some (by kernel_rfl))⟩
  f47 := Tryz.func205.trans (congrArg some (by kernel_rfl))
  f48 := Tryz.func206.trans (congrArg some (by kernel_rfl))
  f49 := ⟨Tryz.f207.name, by decide, Tryz.func207.trans (congrArg some (by kernel_rfl))⟩
  f50 := ⟨Tryz.f208.name, by decide, Tryz.func208.trans (congrArg some (by kernel_rfl))⟩
  f57 := ⟨Tryz.f216.name, by decide, Tryz.func216.trans (congrArg some (by kernel_rfl))⟩
  t0 := Tryz.underlying0
  a0 := Tryz.isAgg0
  z0 := Tryz.sizeOf0
  v0 := Tryz.zeroValue0
  t3 := Tryz.underlying3
  a3 := Tryz.isAgg3
  z3 := Tryz.sizeOf3
  v3 := Tryz.zeroValue3
  t4 := Tryz.underlying4
  a4 := Tryz.isAgg4
  z4 := Tryz.sizeOf4
  v4 := Tryz.zeroValue4
  t5 := Tryz.underlying5
  a5 := Tryz.isAgg5
  z5 := Tryz.sizeOf5
  v5 := Tryz.zeroValue5
  t9 := Tryz.underlying9
  a9 := Tryz.isAgg9
  z9 := Tryz.sizeOf9
  v9 := Tryz.zeroValue9
  t22 := Tryz.underlying38
  a22 := Tryz.isAgg38
  z22 := Tryz.sizeOf38
  v22 := Tryz.zeroValue38
  a24 := Tryz.isAgg58
  z24 := Tryz.sizeOf58
  t25 := Tryz.underlying149
  a25 := Tryz.isAgg149
  z25 := Tryz.sizeOf149
  v25 := Tryz.zeroValue149
  t39 := Tryz.underlying199
  a39 := Tryz.isAgg199
  z39 := Tryz.sizeOf199
  v39 := Tryz.zeroValue199
  t45 := Tryz.underlying242
  a45 := Tryz.isAgg242
  z45 := Tryz.sizeOf242
  v45 := Tryz.zeroValue242
  t46 := Tryz.underlying243
  a46 := Tryz.isAgg243
  z46 := Tryz.sizeOf243
  v46 := Tryz.zeroValue243
  t50 := Tryz.underlying100
  a50 := Tryz.isAgg100
  z50 := Tryz.sizeOf100
  v50 := Tryz.zeroValue100
  t53 := Tryz.underlying57
  a53 := Tryz.isAgg57
  z53 := Tryz.sizeOf57
  v53 := Tryz.zeroValue57
  t55 := Tryz.underlying170
  a55 := Tryz.isAgg170
  z55 := Tryz.sizeOf170
  v55 := Tryz.zeroValue170
  t66 := Tryz.underlying261
  a66 := Tryz.isAgg261
  z66 := Tryz.sizeOf261
  v66 := Tryz.zeroValue261
  t70 := Tryz.underlying265
  a70 := Tryz.isAgg265
  z70 := Tryz.sizeOf265
  v70 := Tryz.zeroValue265
  t76 := Tryz.underlying274
  a76 := Tryz.isAgg274
  z76 := Tryz.sizeOf274
  v76 := Tryz.zeroValue274
  t77 := Tryz.underlying275
  a77 := Tryz.isAgg275
  z77 := Tryz.sizeOf275
  v77 := Tryz.zeroValue275 }
end Go.Proofs

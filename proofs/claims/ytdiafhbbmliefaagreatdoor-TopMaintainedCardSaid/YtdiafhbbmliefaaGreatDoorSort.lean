/-
  DERIVED: THE SHELF's CONTRACTS AT THIS DUMP, IN PLAIN WORDS (tools/lay-plain.mjs out of 'ZzShelfSort.lean', which tools/lay-shelf.mjs wrote): THE SAME DECLARATIONS UNDER THE SAME NAMES: 'import', 'namespace', 'open', 'def', 'theorem' AND NOTHING ELSE: no command of the shelf's: FOR A HAND-IN. Each laying: the table of numbers ('.._ren') and one theorem, a field a fact of the dump's own or the kernel's comparison; each contract: ONE APPLICATION.
-/
import Derived.Shelf.SlGeneric
import Derived.Shelf.SlSortCmp.NoneTotal
import Derived.Ground.SlsfProg
import Derived.Test.YtdiafhbbmliefaaGreatDoorProg
namespace Go.Proofs
open Go.Shelf
def Tryz.sortS_ren : Go.Shelf.Ren := ⟨fun | 6 => 84 | 15 => 89 | 14 => 116 | 28 => 125 | 29 => 126 | 20 => 143 | 21 => 144 | 22 => 145 | 23 => 146 | 24 => 147 | 25 => 148 | 26 => 149 | 27 => 150 | 46 => 171 | 47 => 152 | 48 => 153 | 49 => 172 | 50 => 173 | 57 => 183 | n => n, fun | 22 => 53 | 24 => 67 | 25 => 105 | 3 => 3 | 39 => 142 | 0 => 0 | 53 => 66 | 55 => 176 | 4 => 4 | 46 => 170 | 45 => 169 | 50 => 79 | 5 => 5 | 9 => 9 | 66 => 197 | 70 => 201 | 76 => 226 | 77 => 227 | n => n, fun | n => n⟩
theorem Tryz.sortS : Go.Proofs.SlLaysF.n6 Tryz.prog Tryz.sortS_ren := {
  mixed := by kernel_rfl
  f6 := ⟨Tryz.f84.name, by decide, Tryz.func84.trans (congrArg some (by kernel_rfl))⟩
  f14 := ⟨Tryz.f116.name, by decide, Tryz.func116.trans (congrArg some (by kernel_rfl))⟩
  f15 := Tryz.func89.trans (congrArg some (by kernel_rfl))
  f20 := ⟨Tryz.f143.name, by decide, Tryz.func143.trans (congrArg some (by kernel_rfl))⟩
  f21 := ⟨Tryz.f144.name, by decide, Tryz.func144.trans (congrArg some (by kernel_rfl))⟩
  f22 := ⟨Tryz.f145.name, by decide, Tryz.func145.trans (congrArg some (by kernel_rfl))⟩
  f23 := ⟨Tryz.f146.name, by decide, Tryz.func146.trans (congrArg some (by kernel_rfl))⟩
  f24 := ⟨Tryz.f147.name, by decide, Tryz.func147.trans (congrArg some (by kernel_rfl))⟩
  f25 := ⟨Tryz.f148.name, by decide, Tryz.func148.trans (congrArg some (by kernel_rfl))⟩
  f26 := ⟨Tryz.f149.name, by decide, Tryz.func149.trans (congrArg some (by kernel_rfl))⟩
  f27 := ⟨Tryz.f150.name, by decide, Tryz.func150.trans (congrArg some (by kernel_rfl))⟩
  f28 := Tryz.func125.trans (congrArg some (by kernel_rfl))
  f29 := Tryz.func126.trans (congrArg some (by kernel_rfl))
  f46 := ⟨Tryz.f171.name, by decide, Tryz.func171.trans (congrArg some (by kernel_rfl))⟩
  f47 := Tryz.func152.trans (congrArg some (by kernel_rfl))
  f48 := Tryz.func153.trans (congrArg some (by kernel_rfl))
  f49 := ⟨Tryz.f172.name, by decide, Tryz.func172.trans (congrArg some (by kernel_rfl))⟩
  f50 := ⟨Tryz.f173.name, by decide, Tryz.func173.trans (congrArg some (by kernel_rfl))⟩
  f57 := ⟨Tryz.f183.name, by decide, Tryz.func183.trans (congrArg some (by kernel_rfl))⟩
  t0 := Tryz.underlying0
  a0 := Tryz.isAgg0
  z0 := Tryz.sizeOf0
  v0 := Tryz.zeroValue0
  t3 := Tryz.underlying3
  a3 := Tryz.isAgg3
  z3 := Tryz.sizeOf3
  v3 := Tryz.zeroValue3
  t4 := Tryz.underlying4
  a4 := Tryz.isAgg4
  z4 := Tryz.sizeOf4
  v4 := Tryz.zeroValue4
  t5 := Tryz.underlying5
  a5 := Tryz.isAgg5
  z5 := Tryz.sizeOf5
  v5 := Tryz.zeroValue5
  t9 := Tryz.underlying9
  a9 := Tryz.isAgg9
  z9 := Tryz.sizeOf9
  v9 := Tryz.zeroValue9
  t22 := Tryz.underlying53
  a22 := Tryz.isAgg53
  z22 := Tryz.sizeOf53
  v22 := Tryz.zeroValue53
  a24 := Tryz.isAgg67
  z24 := Tryz.sizeOf67
  t25 := Tryz.underlying105
  a25 := Tryz.isAgg105
  z25 := Tryz.sizeOf105
  v25 := Tryz.zeroValue105
  t39 := Tryz.underlying142
  a39 := Tryz.isAgg142
  z39 := Tryz.sizeOf142
  v39 := Tryz.zeroValue142
  t45 := Tryz.underlying169
  a45 := Tryz.isAgg169
  z45 := Tryz.sizeOf169
  v45 := Tryz.zeroValue169
  t46 := Tryz.underlying170
  a46 := Tryz.isAgg170
  z46 := Tryz.sizeOf170
  v46 := Tryz.zeroValue170
  t50 := Tryz.underlying79
  a50 := Tryz.isAgg79
  z50 := Tryz.sizeOf79
  v50 := Tryz.zeroValue79
  t53 := Tryz.underlying66
  a53 := Tryz.isAgg66
  z53 := Tryz.sizeOf66
  v53 := Tryz.zeroValue66
  t55 := Tryz.underlying176
  a55 := Tryz.isAgg176
  z55 := Tryz.sizeOf176
  v55 := Tryz.zeroValue176
  t66 := Tryz.underlying197
  a66 := Tryz.isAgg197
  z66 := Tryz.sizeOf197
  v66 := Tryz.zeroValue197
  t70 := Tryz.underlying201
  a70 := Tryz.isAgg201
  z70 := Tryz.sizeOf201
  v70 := Tryz.zeroValue201
  t76 := Tryz.underlying226
  a76 := Tryz.isAgg226
  z76 := Tryz.sizeOf226
  v76 := Tryz.zeroValue226
  t77 := Tryz.underlying227
  a77 := Tryz.isAgg227
  z77 := Tryz.sizeOf227
  v77 := Tryz.zeroValue227 }
end Go.Proofs

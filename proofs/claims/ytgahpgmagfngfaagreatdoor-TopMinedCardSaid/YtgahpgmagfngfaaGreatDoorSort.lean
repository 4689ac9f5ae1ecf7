/-
  DERIVED: THE SHELF's CONTRACTS AT THIS DUMP, IN PLAIN WORDS (tools/lay-plain.mjs out of 'ZzShelfSort.lean', which tools/lay-shelf.mjs wrote): THE SAME DECLARATIONS UNDER THE SAME NAMES: 'import', 'namespace', 'open', 'def', 'theorem' AND NOTHING ELSE: no command of the shelf's: FOR A HAND-IN. Each laying: the table of numbers ('.._ren') and one theorem, a field a fact of the dump's own or the kernel's comparison; each contract: ONE APPLICATION.
-/
import Derived.Shelf.SlGeneric
import Derived.Shelf.SlSortCmp.NoneTotal
import Derived.Ground.SlsfProg
import Derived.Test.YtgahpgmagfngfaaGreatDoorProg
namespace Go.Proofs
open Go.Shelf
def Tryz.sortS_ren : Go.Shelf.Ren := ⟨fun | 6 => 100 | 15 => 78 | 14 => 141 | 28 => 120 | 29 => 121 | 20 => 165 | 21 => 166 | 22 => 167 | 23 => 168 | 24 => 169 | 25 => 170 | 26 => 171 | 27 => 172 | 46 => 186 | 47 => 151 | 48 => 152 | 49 => 187 | 50 => 188 | 57 => 194 | n => n, fun | 22 => 59 | 24 => 55 | 25 => 173 | 3 => 3 | 39 => 146 | 0 => 0 | 53 => 54 | 55 => 191 | 4 => 4 | 46 => 184 | 45 => 183 | 50 => 119 | 5 => 5 | 9 => 9 | 66 => 215 | 70 => 219 | 76 => 238 | 77 => 239 | n => n, fun | n => n⟩
theorem Tryz.sortS : Go.Proofs.SlLaysF.n6 Tryz.prog Tryz.sortS_ren := {
  mixed := by kernel_rfl
  f6 := ⟨Tryz.f100.name, by decide, Tryz.func100.trans (congrArg some (by kernel_rfl))⟩
  f14 := ⟨Tryz.f141.name, by decide, Tryz.func141.trans (congrArg some (by kernel_rfl))⟩
  f15 := Tryz.func78.trans (congrArg some (by kernel_rfl))
  f20 := ⟨Tryz.f165.name, by decide, Tryz.func165.trans (congrArg some (by kernel_rfl))⟩
  f21 := ⟨Tryz.f166.name, by decide, Tryz.func166.trans (congrArg some (by kernel_rfl))⟩
  f22 := ⟨Tryz.f167.name, by decide, Tryz.func167.trans (congrArg some (by kernel_rfl))⟩
  f23 := ⟨Tryz.f168.name, by decide, Tryz.func168.trans (congrArg some (by kernel_rfl))⟩
  f24 := ⟨Tryz.f169.name, by decide, Tryz.func169.trans (congrArg some (by kernel_rfl))⟩
  f25 := ⟨Tryz.f170.name, by decide, Tryz.func170.trans (congrArg some (by kernel_rfl))⟩
  f26 := ⟨Tryz.f171.name, by decide, Tryz.func171.trans (congrArg some (by kernel_rfl))⟩
  f27 := ⟨Tryz.f172.name, by decide, Tryz.func172.trans (congrArg some (by kernel_rfl))⟩
  f28 := Tryz.func120.trans (congrArg some (by kernel_rfl))
  f29 := Tryz.func121.trans (congrArg some (by kernel_rfl))
  f46 := ⟨Tryz.f186.name, by decide, Tryz.func186.trans (congrArg some (by kernel_rfl))⟩
  f47 := Tryz.func151.trans (congrArg some (by kernel_rfl))
  f48 := Tryz.func152.trans (congrArg some (by kernel_rfl))
  f49 := ⟨Tryz.f187.name, by decide, Tryz.func187.trans (congrArg some (by kernel_rfl))⟩
  f50 := ⟨Tryz.f188.name, by decide, Tryz.func188.trans (congrArg some (by kernel_rfl))⟩
  f57 := ⟨Tryz.f194.name, by decide, Tryz.func194.trans (congrArg some (by kernel_rfl))⟩
  t0 := Tryz.underlying0
  a0 := Tryz.isAgg0
  z0 := Tryz.sizeOf0
  v0 := Tryz.zeroValue0
  t3 := Tryz.underlying3
  a3 := Tryz.isAgg3
  z3 := Tryz.sizeOf3
  v3 := Tryz.zeroValue3
  t4 := Tryz.underlying4
  a4 := Tryz.isAgg4
  z4 := Tryz.sizeOf4
  v4 := Tryz.zeroValue4
  t5 := Tryz.underlying5
  a5 := Tryz.isAgg5
  z5 := Tryz.sizeOf5
  v5 := Tryz.zeroValue5
  t9 := Tryz.underlying9
  a9 := Tryz.isAgg9
  z9 := Tryz.sizeOf9
  v9 := Tryz.zeroValue9
  t22 := Tryz.underlying59
  a22 := Tryz.isAgg59
  z22 := Tryz.sizeOf59
  v22 := Tryz.zeroValue59
  a24 := Tryz.isAgg55
  z24 := Tryz.sizeOf55
  t25 := Tryz.underlying173
  a25 := Tryz.isAgg173
  z25 := Tryz.sizeOf173
  v25 := Tryz.zeroValue173
  t39 := Tryz.underlying146
  a39 := Tryz.isAgg146
  z39 := Tryz.sizeOf146
  v39 := Tryz.zeroValue146
  t45 := Tryz.underlying183
  a45 := Tryz.isAgg183
  z45 := Tryz.sizeOf183
  v45 := Tryz.zeroValue183
  t46 := Tryz.underlying184
  a46 := Tryz.isAgg184
  z46 := Tryz.sizeOf184
  v46 := Tryz.zeroValue184
  t50 := Tryz.underlying119
  a50 := Tryz.isAgg119
  z50 := Tryz.sizeOf119
  v50 := Tryz.zeroValue119
  t53 := Tryz.underlying54
  a53 := Tryz.isAgg54
  z53 := Tryz.sizeOf54
  v53 := Tryz.zeroValue54
  t55 := Tryz.underlying191
  a55 := Tryz.isAgg191
  z55 := Tryz.sizeOf191
  v55 := Tryz.zeroValue191
  t66 := Tryz.underlying215
  a66 := Tryz.isAgg215
  z66 := Tryz.sizeOf215
  v66 := Tryz.zeroValue215
  t70 := Tryz.underlying219
  a70 := Tryz.isAgg219
  z70 := Tryz.sizeOf219
  v70 := Tryz.zeroValue219
  t76 := Tryz.underlying238
  a76 := Tryz.isAgg238
  z76 := Tryz.sizeOf238
  v76 := Tryz.zeroValue238
  t77 := Tryz.underlying239
  a77 := Tryz.isAgg239
  z77 := Tryz.sizeOf239
  v77 := Tryz.zeroValue239 }
end Go.Proofs

/-
  DERIVED: THE SHELF's CONTRACTS AT THIS DUMP, IN PLAIN WORDS (tools/lay-plain.mjs out of 'ZzShelfSort.lean', which tools/lay-shelf.mjs wrote): THE SAME DECLARATIONS UNDER THE SAME NAMES: 'import', 'namespace', 'open', 'def', 'theorem' AND NOTHING ELSE: no command of the shelf's: FOR A HAND-IN. Each laying: the table of numbers ('.._ren') and one theorem, a field a fact of the dump's own or the kernel's comparison; each contract: ONE APPLICATION.
-/
import Derived.Shelf.SlGeneric
import Derived.Shelf.SlSortCmp.NoneTotal
import Derived.Ground.SlsfProg
import Derived.Test.YtkbegpnchamgkaaGreatDoorProg
namespace Go.Proofs
open Go.Shelf
def Tryz.sortS_ren : Go.Shelf.Ren := ⟨fun | 6 => 72 | 15 => 94 | 14 => 93 | 28 => 122 | 29 => 123 | 20 => 114 | 21 => 115 | 22 => 116 | 23 => 117 | 24 => 118 | 25 => 119 | 26 => 120 | 27 => 121 | 46 => 132 | 47 => 133 | 48 => 134 | 49 => 135 | 50 => 136 | 57 => 138 | n => n, fun | 22 => 45 | 24 => 33 | 25 => 111 | 3 => 3 | 39 => 118 | 0 => 0 | 53 => 32 | 55 => 119 | 4 => 4 | 46 => 139 | 45 => 138 | 50 => 78 | 5 => 5 | 9 => 9 | 66 => 149 | 70 => 153 | 76 => 155 | 77 => 156 | n => n, fun | n => n⟩
theorem Tryz.sortS : Go.Proofs.SlLaysF.n6 Tryz.prog Tryz.sortS_ren := {
  mixed := by kernel_rfl
  f6 := ⟨Tryz.f72.name, by decide, Tryz.func72.trans (congrArg some (by kernel_rfl))⟩
  f14 := ⟨Tryz.f93.name, by decide, Tryz.func93.trans (congrArg some (by kernel_rfl))⟩
  f15 := Tryz.func94.trans (congrArg some (by kernel_rfl))
  f20 := ⟨Tryz.f114.name, by decide, Tryz.func114.trans (congrArg some (by kernel_rfl))⟩
  f21 := ⟨Tryz.f115.name, by decide, Tryz.func115.trans (congrArg some (by kernel_rfl))⟩
  f22 := ⟨Tryz.f116.name, by decide, Tryz.func116.trans (congrArg some (by kernel_rfl))⟩
  f23 := ⟨Tryz.f117.name, by decide, Tryz.func117.trans (congrArg some (by kernel_rfl))⟩
  f24 := ⟨Tryz.f118.name, by decide, Tryz.func118.trans (congrArg some (by kernel_rfl))⟩
  f25 := ⟨Tryz.f119.name, by decide, Tryz.func119.trans (congrArg some (by kernel_rfl))⟩
  f26 := ⟨Tryz.f120.name, by decide, Tryz.func120.trans (congrArg some (by kernel_rfl))⟩
  f27 := ⟨Tryz.f121.name, by decide, Tryz.func121.trans (congrArg some (by kernel_rfl))⟩
  f28 := Tryz.func122.trans (congrArg some (by kernel_rfl))
  f29 := Tryz.func123.trans (congrArg some (by kernel_rfl))
  f46 := ⟨Tryz.f132.name, by decide, Tryz.func132.trans (congrArg some (by kernel_rfl))⟩
  f47 := Tryz.func133.trans (congrArg some (by kernel_rfl))
  f48 := Tryz.func134.trans (congrArg some (by kernel_rfl))
  f49 := ⟨Tryz.f135.name, by decide, Tryz.func135.trans (congrArg some (by kernel_rfl))⟩
  f50 := ⟨Tryz.f136.name, by decide, Tryz.func136.trans (congrArg some (by kernel_rfl))⟩
  f57 := ⟨Tryz.f138.name, by decide, Tryz.func138.trans (congrArg some (by kernel_rfl))⟩
  t0 := Tryz.underlying0
  a0 := Tryz.isAgg0
  z0 := Tryz.sizeOf0
  v0 := Tryz.zeroValue0
  t3 := Tryz.underlying3
  a3 := Tryz.isAgg3
  z3 := Tryz.sizeOf3
  v3 := Tryz.zeroValue3
  t4 := Tryz.underlying4
  a4 := Tryz.isAgg4
  z4 := Tryz.sizeOf4
  v4 := Tryz.zeroValue4
  t5 := Tryz.underlying5
  a5 := Tryz.isAgg5
  z5 := Tryz.sizeOf5
  v5 := Tryz.zeroValue5
  t9 := Tryz.underlying9
  a9 := Tryz.isAgg9
  z9 := Tryz.sizeOf9
  v9 := Tryz.zeroValue9
  t22 := Tryz.underlying45
  a22 := Tryz.isAgg45
  z22 := Tryz.sizeOf45
  v22 := Tryz.zeroValue45
  a24 := Tryz.isAgg33
  z24 := Tryz.sizeOf33
  t25 := Tryz.underlying111
  a25 := Tryz.isAgg111
  z25 := Tryz.sizeOf111
  v25 := Tryz.zeroValue111
  t39 := Tryz.underlying118
  a39 := Tryz.isAgg118
  z39 := Tryz.sizeOf118
  v39 := Tryz.zeroValue118
  t45 := Tryz.underlying138
  a45 := Tryz.isAgg138
  z45 := Tryz.sizeOf138
  v45 := Tryz.zeroValue138
  t46 := Tryz.underlying139
  a46 := Tryz.isAgg139
  z46 := Tryz.sizeOf139
  v46 := Tryz.zeroValue139
  t50 := Tryz.underlying78
  a50 := Tryz.isAgg78
  z50 := Tryz.sizeOf78
  v50 := Tryz.zeroValue78
  t53 := Tryz.underlying32
  a53 := Tryz.isAgg32
  z53 := Tryz.sizeOf32
  v53 := Tryz.zeroValue32
  t55 := Tryz.underlying119
  a55 := Tryz.isAgg119
  z55 := Tryz.sizeOf119
  v55 := Tryz.zeroValue119
  t66 := Tryz.underlying149
  a66 := Tryz.isAgg149
  z66 := Tryz.sizeOf149
  v66 := Tryz.zeroValue149
  t70 := Tryz.underlying153
  a70 := Tryz.isAgg153
  z70 := Tryz.sizeOf153
  v70 := Tryz.zeroValue153
  t76 := Tryz.underlying155
  a76 := Tryz.isAgg155
  z76 := Tryz.sizeOf155
  v76 := Tryz.zeroValue155
  t77 := Tryz.underlying156
  a77 := Tryz.isAgg156
  z77 := Tryz.sizeOf156
  v77 := Tryz.zeroValue156 }
end Go.Proofs

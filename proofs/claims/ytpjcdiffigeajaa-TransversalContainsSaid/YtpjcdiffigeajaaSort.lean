/-
  DERIVED: THE SHELF's CONTRACTS AT THIS DUMP, IN PLAIN WORDS (tools/lay-plain.mjs out of 'ZzShelfSort.lean', which tools/lay-shelf.mjs wrote): THE SAME DECLARATIONS UNDER THE SAME NAMES: 'import', 'namespace', 'open', 'def', 'theorem' AND NOTHING ELSE: no command of the shelf's: FOR A HAND-IN. Each laying: the table of numbers ('.._ren') and one theorem, a field a fact of the dump's own or the kernel's comparison; each contract: ONE APPLICATION.
-/
import Derived.Shelf.SlGeneric
import Derived.Shelf.SlSortCmp.NoneTotal
import Derived.Ground.SlsfProg
import Derived.Test.YtpjcdiffigeajaaProg
namespace Go.Proofs
open Go.Shelf
def Try.sortS_ren : Go.Shelf.Ren := ⟨fun | 6 => 37 | 15 => 44 | 14 => 43 | 28 => 57 | 29 => 58 | 20 => 49 | 21 => 50 | 22 => 51 | 23 => 52 | 24 => 53 | 25 => 54 | 26 => 55 | 27 => 56 | 46 => 62 | 47 => 63 | 48 => 64 | 49 => 65 | 50 => 66 | 57 => 67 | n => n, fun | 22 => 22 | 24 => 28 | 25 => 47 | 3 => 3 | 39 => 52 | 0 => 0 | 53 => 27 | 55 => 66 | 4 => 4 | 46 => 59 | 45 => 58 | 50 => 63 | 5 => 5 | 9 => 9 | 66 => 69 | 70 => 73 | 76 => 75 | 77 => 76 | n => n, fun | n => n⟩
theorem Try.sortS : Go.Proofs.SlLaysF.n6 Try.prog Try.sortS_ren := {
  mixed := by kernel_rfl
  f6 := ⟨Try.f37.name, by decide, Try.func37.trans (congrArg some (by kernel_rfl))⟩
  f14 := ⟨Try.f43.name, by decide, Try.func43.trans (congrArg some (by kernel_rfl))⟩
  f15 := Try.func44.trans (congrArg some (by kernel_rfl))
  f20 := ⟨Try.f49.name, by decide, Try.func49.trans (congrArg some (by kernel_rfl))⟩
  f21 := ⟨Try.f50.name, by decide, Try.func50.trans (congrArg some (by kernel_rfl))⟩
  f22 := ⟨Try.f51.name, by decide, Try.func51.trans (congrArg some (by kernel_rfl))⟩
  f23 := ⟨Try.f52.name, by decide, Try.func52.trans (congrArg some (by kernel_rfl))⟩
  f24 := ⟨Try.f53.name, by decide, Try.func53.trans (congrArg some (by kernel_rfl))⟩
  f25 := ⟨Try.f54.name, by decide, Try.func54.trans (congrArg some (by kernel_rfl))⟩
  f26 := ⟨Try.f55.name, by decide, Try.func55.trans (congrArg some (by kernel_rfl))⟩
  f27 := ⟨Try.f56.name, by decide, Try.func56.trans (congrArg some (by kernel_rfl))⟩
  f28 := Try.func57.trans (congrArg some (by kernel_rfl))
  f29 := Try.func58.trans (congrArg some (by kernel_rfl))
  f46 := ⟨Try.f62.name, by decide, Try.func62.trans (congrArg some (by kernel_rfl))⟩
  f47 := Try.func63.trans (congrArg some (by kernel_rfl))
  f48 := Try.func64.trans (congrArg some (by kernel_rfl))
  f49 := ⟨Try.f65.name, by decide, Try.func65.trans (congrArg some (by kernel_rfl))⟩
  f50 := ⟨Try.f66.name, by decide, Try.func66.trans (congrArg some (by kernel_rfl))⟩
  f57 := ⟨Try.f67.name, by decide, Try.func67.trans (congrArg some (by kernel_rfl))⟩
  t0 := Try.underlying0
  a0 := Try.isAgg0
  z0 := Try.sizeOf0
  v0 := Try.zeroValue0
  t3 := Try.underlying3
  a3 := Try.isAgg3
  z3 := Try.sizeOf3
  v3 := Try.zeroValue3
  t4 := Try.underlying4
  a4 := Try.isAgg4
  z4 := Try.sizeOf4
  v4 := Try.zeroValue4
  t5 := Try.underlying5
  a5 := Try.isAgg5
  z5 := Try.sizeOf5
  v5 := Try.zeroValue5
  t9 := Try.underlying9
  a9 := Try.isAgg9
  z9 := Try.sizeOf9
  v9 := Try.zeroValue9
  t22 := Try.underlying22
  a22 := Try.isAgg22
  z22 := Try.sizeOf22
  v22 := Try.zeroValue22
  a24 := Try.isAgg28
  z24 := Try.sizeOf28
  t25 := Try.underlying47
  a25 := Try.isAgg47
  z25 := Try.sizeOf47
  v25 := Try.zeroValue47
  t39 := Try.underlying52
  a39 := Try.isAgg52
  z39 := Try.sizeOf52
  v39 := Try.zeroValue52
  t45 := Try.underlying58
  a45 := Try.isAgg58
  z45 := Try.sizeOf58
  v45 := Try.zeroValue58
  t46 := Try.underlying59
  a46 := Try.isAgg59
  z46 := Try.sizeOf59
  v46 := Try.zeroValue59
  t50 := Try.underlying63
  a50 := Try.isAgg63
  z50 := Try.sizeOf63
  v50 := Try.zeroValue63
  t53 := Try.underlying27
  a53 := Try.isAgg27
  z53 := Try.sizeOf27
  v53 := Try.zeroValue27
  t55 := Try.underlying66
  a55 := Try.isAgg66
  z55 := Try.sizeOf66
  v55 := Try.zeroValue66
  t66 := Try.underlying69
  a66 := Try.isAgg69
  z66 := Try.sizeOf69
  v66 := Try.zeroValue69
  t70 := Try.underlying73
  a70 := Try.isAgg73
  z70 := Try.sizeOf73
  v70 := Try.zeroValue73
  t76 := Try.underlying75
  a76 := Try.isAgg75
  z76 := Try.sizeOf75
  v76 := Try.zeroValue75
  t77 := Try.underlying76
  a77 := Try.isAgg76
  z77 := Try.sizeOf76
  v77 := Try.zeroValue76 }
end Go.Proofs

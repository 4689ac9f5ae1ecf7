/-
  DERIVED: THE SHELF's CONTRACTS AT THIS DUMP, IN PLAIN WORDS (tools/lay-plain.mjs out of 'ZzShelfMulQ.lean', which tools/lay-shelf.mjs wrote): THE SAME DECLARATIONS UNDER THE SAME NAMES: 'import', 'namespace', 'open', 'def', 'theorem' AND NOTHING ELSE: no command of the shelf's: FOR A HAND-IN. Each laying: the table of numbers ('.._ren') and one theorem, a field a fact of the dump's own or the kernel's comparison; each contract: ONE APPLICATION.
-/
import Derived.Shelf.Bits.Mul64
import Derived.Ground.NamesProg
import Derived.Test.YtalejolehccclaaGreatDoorProg
namespace Go.Proofs
open Go.Shelf
def Tryz.mulS_ren : Go.Shelf.Ren := ⟨fun | 264 => 153 | n => n, fun | 53 => 170 | 46 => 199 | n => n, fun | n => n⟩
theorem Tryz.mulS : Go.Proofs.Lays.n264 Tryz.prog Tryz.mulS_ren := {
  mixed := by kernel_rfl
  f264 := Tryz.func153.trans (congrArg some (by kernel_rfl))
  t46 := Tryz.underlying199
  a46 := Tryz.isAgg199
  z46 := Tryz.sizeOf199
  v46 := Tryz.zeroValue199
  t53 := Tryz.underlying170
  a53 := Tryz.isAgg170
  z53 := Tryz.sizeOf170
  v53 := Tryz.zeroValue170 }
end Go.Proofs

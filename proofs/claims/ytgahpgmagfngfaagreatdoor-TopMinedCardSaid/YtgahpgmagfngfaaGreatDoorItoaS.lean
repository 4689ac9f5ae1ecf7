/-
  DERIVED: THE SHELF's CONTRACTS AT THIS DUMP, IN PLAIN WORDS (tools/lay-plain.mjs out of 'ZzShelfItoaS.lean', which tools/lay-shelf.mjs wrote): THE SAME DECLARATIONS UNDER THE SAME NAMES: 'import', 'namespace', 'open', 'def', 'theorem' AND NOTHING ELSE: no command of the shelf's: FOR A HAND-IN. Each laying: the table of numbers ('.._ren') and one theorem, a field a fact of the dump's own or the kernel's comparison; each contract: ONE APPLICATION.
-/
import Derived.Shelf.Strconv.Itoa3
import Derived.Ground.NamesProg
import Derived.Test.YtgahpgmagfngfaaGreatDoorProg
namespace Go.Proofs
open Go.Shelf
def Tryz.itoaS_ren : Go.Shelf.Ren := ⟨fun | 171 => 86 | 243 => 128 | 246 => 157 | 283 => 178 | 284 => 179 | 285 => 180 | 286 => 181 | 129 => 121 | 317 => 190 | 318 => 191 | 319 => 192 | 320 => 193 | 337 => 158 | 338 => 195 | n => n, fun | 3 => 3 | 9 => 9 | 2 => 2 | 4 => 4 | 171 => 241 | 0 => 0 | 53 => 191 | 37 => 24 | 5 => 5 | 173 => 243 | 212 => 253 | 51 => 54 | 20 => 20 | 213 => 254 | 46 => 146 | 232 => 245 | 233 => 256 | n => n, fun | 17 => 2 | 18 => 0 | 19 => 3 | n => n⟩
theorem Tryz.itoaS : Go.Proofs.Lays.n171 Tryz.prog Tryz.itoaS_ren := {
  mixed := by kernel_rfl
  f129 := Tryz.func121.trans (congrArg some (by kernel_rfl))
  f171 := Tryz.func86.trans (congrArg some (by kernel_rfl))
  f243 := Tryz.func128.trans (congrArg some (by kernel_rfl))
  f246 := Tryz.func157.trans (congrArg some (by kernel_rfl))
  f283 := Tryz.func178.trans (congrArg some (by kernel_rfl))
  f284 := Tryz.func179.trans (congrArg some (by kernel_rfl))
  f285 := Tryz.func180.trans (congrArg some (by kernel_rfl))
  f286 := Tryz.func181.trans (congrArg some (by kernel_rfl))
  f317 := Tryz.func190.trans (congrArg some (by kernel_rfl))
  f318 := Tryz.func191.trans (congrArg some (by kernel_rfl))
  f319 := Tryz.func192.trans (congrArg some (by kernel_rfl))
  f320 := Tryz.func193.trans (congrArg some (by kernel_rfl))
  f337 := Tryz.func158.trans (congrArg some (by kernel_rfl))
  f338 := Tryz.func195.trans (congrArg some (by kernel_rfl))
  t0 := Tryz.underlying0
  a0 := Tryz.isAgg0
  z0 := Tryz.sizeOf0
  v0 := Tryz.zeroValue0
  t2 := Tryz.underlying2
  a2 := Tryz.isAgg2
  z2 := Tryz.sizeOf2
  v2 := Tryz.zeroValue2
  t3 := Tryz.underlying3
  a3 := Tryz.isAgg3
  z3 := Tryz.sizeOf3
  v3 := Tryz.zeroValue3
  t4 := Tryz.underlying4
  a4 := Tryz.isAgg4
  z4 := Tryz.sizeOf4
  v4 := Tryz.zeroValue4
  t5 := Tryz.underlying5
  a5 := Tryz.isAgg5
  z5 := Tryz.sizeOf5
  v5 := Tryz.zeroValue5
  t9 := Tryz.underlying9
  a9 := Tryz.isAgg9
  z9 := Tryz.sizeOf9
  v9 := Tryz.zeroValue9
  t20 := Tryz.underlying20
  a20 := Tryz.isAgg20
  z20 := Tryz.sizeOf20
  v20 := Tryz.zeroValue20
  t37 := Tryz.underlying24
  a37 := Tryz.isAgg24
  z37 := Tryz.sizeOf24
  v37 := Tryz.zeroValue24
  t46 := Tryz.underlying146
  a46 := Tryz.isAgg146
  z46 := Tryz.sizeOf146
  v46 := Tryz.zeroValue146
  t51 := Tryz.underlying54
  a51 := Tryz.isAgg54
  z51 := Tryz.sizeOf54
  v51 := Tryz.zeroValue54
  t53 := Tryz.underlying191
  a53 := Tryz.isAgg191
  z53 := Tryz.sizeOf191
  v53 := Tryz.zeroValue191
  t171 := Tryz.underlying241
  a171 := Tryz.isAgg241
  z171 := Tryz.sizeOf241
  v171 := Tryz.zeroValue241
  t173 := Tryz.underlying243
  a173 := Tryz.isAgg243
  z173 := Tryz.sizeOf243
  v173 := Tryz.zeroValue243
  t212 := Tryz.underlying253
  a212 := Tryz.isAgg253
  z212 := Tryz.sizeOf253
  v212 := Tryz.zeroValue253
  t213 := Tryz.underlying254
  a213 := Tryz.isAgg254
  z213 := Tryz.sizeOf254
  t232 := Tryz.underlying245
  a232 := Tryz.isAgg245
  z232 := Tryz.sizeOf245
  v232 := Tryz.zeroValue245
  t233 := Tryz.underlying256
  a233 := Tryz.isAgg256
  z233 := Tryz.sizeOf256
  v233 := Tryz.zeroValue256
  g17 := by kernel_rfl
  g18 := by kernel_rfl
  g19 := by kernel_rfl }
end Go.Proofs

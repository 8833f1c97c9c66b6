/-
  DERIVED: THE SHELF's CONTRACTS AT THIS DUMP, IN PLAIN WORDS (tools/lay-plain.mjs out of 'TrydShelfB.lean', which tools/lay-shelf.mjs wrote): THE SAME DECLARATIONS UNDER THE SAME NAMES: 'import', 'namespace', 'open', 'def', 'theorem' AND NOTHING ELSE: no command of the shelf's: FOR A HAND-IN. Each laying: the table of numbers ('.._ren') and one theorem, a field a fact of the dump's own or the kernel's comparison; each contract: ONE APPLICATION.
-/
import Derived.Shelf.Strconv.Itoa3
import Derived.Test.YtdncdlcfgljheaaDoorProg
namespace Go.Proofs
open Go.Shelf
def Tryd.lays171_ren : Go.Shelf.Ren := ⟨fun | 171 => 64 | 243 => 102 | 246 => 127 | 283 => 150 | 284 => 151 | 285 => 152 | 286 => 153 | 129 => 143 | 317 => 171 | 318 => 172 | 319 => 173 | 320 => 174 | 337 => 179 | 338 => 180 | n => n, fun | 3 => 3 | 9 => 9 | 2 => 2 | 4 => 4 | 171 => 196 | 0 => 0 | 53 => 160 | 37 => 22 | 5 => 5 | 173 => 198 | 212 => 213 | 51 => 157 | 20 => 20 | 213 => 214 | 46 => 108 | 232 => 221 | 233 => 222 | n => n, fun | 17 => 3 | 18 => 4 | 19 => 5 | n => n⟩
theorem Tryd.lays171 : Go.Proofs.Lays.n171 Tryd.prog Tryd.lays171_ren := {
  mixed := by kernel_rfl
  f129 := Tryd.func143.trans (congrArg some (by kernel_rfl))
  f171 := Tryd.func64.trans (congrArg some (by kernel_rfl))
  f243 := Tryd.func102.trans (congrArg some (by kernel_rfl))
  f246 := Tryd.func127.trans (congrArg some (by kernel_rfl))
  f283 := Tryd.func150.trans (congrArg some (by kernel_rfl))
  f284 := Tryd.func151.trans (congrArg some (by kernel_rfl))
  f285 := Tryd.func152.trans (congrArg some (by kernel_rfl))
  f286 := Tryd.func153.trans (congrArg some (by kernel_rfl))
  f317 := Tryd.func171.trans (congrArg some (by kernel_rfl))
  f318 := Tryd.func172.trans (congrArg some (by kernel_rfl))
  f319 := Tryd.func173.trans (congrArg some (by kernel_rfl))
  f320 := Tryd.func174.trans (congrArg some (by kernel_rfl))
  f337 := Tryd.func179.trans (congrArg some (by kernel_rfl))
  f338 := Tryd.func180.trans (congrArg some (by kernel_rfl))
  t0 := Tryd.underlying0
  a0 := Tryd.isAgg0
  z0 := Tryd.sizeOf0
  v0 := Tryd.zeroValue0
  t2 := Tryd.underlying2
  a2 := Tryd.isAgg2
  z2 := Tryd.sizeOf2
  v2 := Tryd.zeroValue2
  t3 := Tryd.underlying3
  a3 := Tryd.isAgg3
  z3 := Tryd.sizeOf3
  v3 := Tryd.zeroValue3
  t4 := Tryd.underlying4
  a4 := Tryd.isAgg4
  z4 := Tryd.sizeOf4
  v4 := Tryd.zeroValue4
  t5 := Tryd.underlying5
  a5 := Tryd.isAgg5
  z5 := Tryd.sizeOf5
  v5 := Tryd.zeroValue5
  t9 := Tryd.underlying9
  a9 := Tryd.isAgg9
  z9 := Tryd.sizeOf9
  v9 := Tryd.zeroValue9
  t20 := Tryd.underlying20
  a20 := Tryd.isAgg20
  z20 := Tryd.sizeOf20
  v20 := Tryd.zeroValue20
  t37 := Tryd.underlying22
  a37 := Tryd.isAgg22
  z37 := Tryd.sizeOf22
  v37 := Tryd.zeroValue22
  t46 := Tryd.underlying108
  a46 := Tryd.isAgg108
  z46 := Tryd.sizeOf108
  v46 := Tryd.zeroValue108
  t51 := Tryd.underlying157
  a51 := Tryd.isAgg157
  z51 := Tryd.sizeOf157
  v51 := Tryd.zeroValue157
  t53 := Tryd.underlying160
  a53 := Tryd.isAgg160
  z53 := Tryd.sizeOf160
  v53 := Tryd.zeroValue160
  t171 := Tryd.underlying196
  a171 := Tryd.isAgg196
  z171 := Tryd.sizeOf196
  v171 := Tryd.zeroValue196
  t173 := Tryd.underlying198
  a173 := Tryd.isAgg198
  z173 := Tryd.sizeOf198
  v173 := Tryd.zeroValue198
  t212 := Tryd.underlying213
  a212 := Tryd.isAgg213
  z212 := Tryd.sizeOf213
  v212 := Tryd.zeroValue213
  t213 := Tryd.underlying214
  a213 := Tryd.isAgg214
  z213 := Tryd.sizeOf214
  t232 := Tryd.underlying221
  a232 := Tryd.isAgg221
  z232 := Tryd.sizeOf221
  v232 := Tryd.zeroValue221
  t233 := Tryd.underlying222
  a233 := Tryd.isAgg222
  z233 := Tryd.sizeOf222
  v233 := Tryd.zeroValue222
  g17 := by kernel_rfl
  g18 := by kernel_rfl
  g19 := by kernel_rfl }
end Go.Proofs

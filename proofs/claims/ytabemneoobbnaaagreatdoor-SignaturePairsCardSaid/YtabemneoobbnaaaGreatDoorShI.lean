/-
  DERIVED: THE SHELF's CONTRACTS AT THIS DUMP, IN PLAIN WORDS (tools/lay-plain.mjs out of 'YtabemneoobbnaaaGreatDoorShIL.lean', which tools/lay-shelf.mjs wrote): THE SAME DECLARATIONS UNDER THE SAME NAMES: 'import', 'namespace', 'open', 'def', 'theorem' AND NOTHING ELSE: no command of the shelf's: FOR A HAND-IN. Each laying: the table of numbers ('.._ren') and one theorem, a field a fact of the dump's own or the kernel's comparison; each contract: ONE APPLICATION.
-/
import Derived.Shelf.Strconv.Itoa3
import Derived.Test.YtabemneoobbnaaaGreatDoorProg
namespace Go.Proofs
open Go.Shelf
def Tryz.layItoa_ren : Go.Shelf.Ren := ⟨fun | 171 => 101 | 243 => 138 | 246 => 160 | 283 => 184 | 284 => 185 | 285 => 186 | 286 => 187 | 129 => 128 | 317 => 196 | 318 => 197 | 319 => 198 | 320 => 199 | 337 => 202 | 338 => 203 | n => n, fun | 3 => 3 | 9 => 9 | 2 => 2 | 4 => 4 | 171 => 218 | 0 => 0 | 53 => 176 | 37 => 22 | 5 => 5 | 173 => 220 | 212 => 233 | 51 => 174 | 20 => 20 | 213 => 234 | 46 => 150 | 232 => 237 | 233 => 238 | n => n, fun | 17 => 2 | 18 => 3 | 19 => 4 | n => n⟩
theorem Tryz.layItoa : Go.Proofs.Lays.n171 Tryz.prog Tryz.layItoa_ren := {
  mixed := by kernel_rfl
  f129 := Tryz.func128.trans (congrArg some (by kernel_rfl))
  f171 := Tryz.func101.trans (congrArg some (by kernel_rfl))
  f243 := Tryz.func138.trans (congrArg some (by kernel_rfl))
  f246 := Tryz.func160.trans (congrArg some (by kernel_rfl))
  f283 := Tryz.func184.trans (congrArg some (by kernel_rfl))
  f284 := Tryz.func185.trans (congrArg some (by kernel_rfl))
  f285 := Tryz.func186.trans (congrArg some (by kernel_rfl))
  f286 := Tryz.func187.trans (congrArg some (by kernel_rfl))
  f317 := Tryz.func196.trans (congrArg some (by kernel_rfl))
  f318 := Tryz.func197.trans (congrArg some (by kernel_rfl))
  f319 := Tryz.func198.trans (congrArg some (by kernel_rfl))
  f320 := Tryz.func199.trans (congrArg some (by kernel_rfl))
  f337 := Tryz.func202.trans (congrArg some (by kernel_rfl))
  f338 := Tryz.func203.trans (congrArg some (by kernel_rfl))
  t0 := Tryz.underlying0
  a0 := Tryz.isAgg0
  z0 := Tryz.sizeOf0
  v0 := Tryz.zeroValue0
  t2 := Tryz.underlying2
  a2 := Tryz.isAgg2
  z2 := Tryz.sizeOf2
  v2 := Tryz.zeroValue2
  t3 := Tryz.underlying3
  a3 := Tryz.isAgg3
  z3 := Tryz.sizeOf3
  v3 := Tryz.zeroValue3
  t4 := Tryz.underlying4
  a4 := Tryz.isAgg4
  z4 := Tryz.sizeOf4
  v4 := Tryz.zeroValue4
  t5 := Tryz.underlying5
  a5 := Tryz.isAgg5
  z5 := Tryz.sizeOf5
  v5 := Tryz.zeroValue5
  t9 := Tryz.underlying9
  a9 := Tryz.isAgg9
  z9 := Tryz.sizeOf9
  v9 := Tryz.zeroValue9
  t20 := Tryz.underlying20
  a20 := Tryz.isAgg20
  z20 := Tryz.sizeOf20
  v20 := Tryz.zeroValue20
  t37 := Tryz.underlying22
  a37 := Tryz.isAgg22
  z37 := Tryz.sizeOf22
  v37 := Tryz.zeroValue22
  t46 := Tryz.underlying150
  a46 := Tryz.isAgg150
  z46 := Tryz.sizeOf150
  v46 := Tryz.zeroValue150
  t51 := Tryz.underlying174
  a51 := Tryz.isAgg174
  z51 := Tryz.sizeOf174
  v51 := Tryz.zeroValue174
  t53 := Tryz.underlying176
  a53 := Tryz.isAgg176
  z53 := Tryz.sizeOf176
  v53 := Tryz.zeroValue176
  t171 := Tryz.underlying218
  a171 := Tryz.isAgg218
  z171 := Tryz.sizeOf218
  v171 := Tryz.zeroValue218
  t173 := Tryz.underlying220
  a173 := Tryz.isAgg220
  z173 := Tryz.sizeOf220
  v173 := Tryz.zeroValue220
  t212 := Tryz.underlying233
  a212 := Tryz.isAgg233
  z212 := Tryz.sizeOf233
  v212 := Tryz.zeroValue233
  t213 := Tryz.underlying234
  a213 := Tryz.isAgg234
  z213 := Tryz.sizeOf234
  t232 := Tryz.underlying237
  a232 := Tryz.isAgg237
  z232 := Tryz.sizeOf237
  v232 := Tryz.zeroValue237
  t233 := Tryz.underlying238
  a233 := Tryz.isAgg238
  z233 := Tryz.sizeOf238
  v233 := Tryz.zeroValue238
  g17 := by kernel_rfl
  g18 := by kernel_rfl
  g19 := by kernel_rfl }
end Go.Proofs

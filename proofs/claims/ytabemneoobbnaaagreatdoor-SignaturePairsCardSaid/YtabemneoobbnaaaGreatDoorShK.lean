/-
  DERIVED: THE SHELF's CONTRACTS AT THIS DUMP, IN PLAIN WORDS (tools/lay-plain.mjs out of 'YtabemneoobbnaaaGreatDoorShKL.lean', which tools/lay-shelf.mjs wrote): THE SAME DECLARATIONS UNDER THE SAME NAMES: 'import', 'namespace', 'open', 'def', 'theorem' AND NOTHING ELSE: no command of the shelf's: FOR A HAND-IN. Each laying: the table of numbers ('.._ren') and one theorem, a field a fact of the dump's own or the kernel's comparison; each contract: ONE APPLICATION.
-/
import Derived.Shelf.SlIter.Nil
import Derived.Ground.GgzProg
import Derived.Shelf.SlicesG.Turned
import Derived.Ground.SlgnProg
import Derived.Test.YtabemneoobbnaaaGreatDoorProg
namespace Go.Proofs
open Go.Shelf
def Tryz.keysI_ren : Go.Shelf.Ren := ⟨fun | 7 => 86 | 10 => 113 | n => n, fun | 23 => 89 | 26 => 9 | 3 => 3 | 28 => 135 | 0 => 0 | 27 => 134 | 33 => 155 | 4 => 4 | n => n, fun | n => n⟩
theorem Tryz.keysI : Go.Proofs.SlLaysZ.n7 Tryz.prog Tryz.keysI_ren := {
  mixed := by kernel_rfl
  f7 := ⟨Tryz.f86.name, by decide, Tryz.func86.trans (congrArg some (by kernel_rfl))⟩
  f10 := ⟨Tryz.f113.name, by decide, Tryz.func113.trans (congrArg some (by kernel_rfl))⟩
  t0 := Tryz.underlying0
  a0 := Tryz.isAgg0
  z0 := Tryz.sizeOf0
  v0 := Tryz.zeroValue0
  t4 := Tryz.underlying4
  a4 := Tryz.isAgg4
  z4 := Tryz.sizeOf4
  v4 := Tryz.zeroValue4
  t23 := Tryz.underlying89
  a23 := Tryz.isAgg89
  z23 := Tryz.sizeOf89
  v23 := Tryz.zeroValue89
  t26 := Tryz.underlying9
  a26 := Tryz.isAgg9
  z26 := Tryz.sizeOf9
  v26 := Tryz.zeroValue9
  t27 := Tryz.underlying134
  a27 := Tryz.isAgg134
  z27 := Tryz.sizeOf134
  v27 := Tryz.zeroValue134
  t28 := Tryz.underlying135
  a28 := Tryz.isAgg135
  z28 := Tryz.sizeOf135
  v28 := Tryz.zeroValue135
  t33 := Tryz.underlying155
  a33 := Tryz.isAgg155
  z33 := Tryz.sizeOf155
  v33 := Tryz.zeroValue155 }
def Tryz.containsI_ren : Go.Shelf.Ren := ⟨fun | 31 => 52 | 29 => 92 | n => n, fun | 22 => 30 | 23 => 3 | 4 => 4 | 3 => 3 | 0 => 0 | n => n, fun | n => n⟩
theorem Tryz.containsI : Go.Proofs.SlLaysN.n31 Tryz.prog Tryz.containsI_ren := {
  mixed := by kernel_rfl
  f29 := ⟨Tryz.f92.name, by decide, Tryz.func92.trans (congrArg some (by kernel_rfl))⟩
  f31 := ⟨Tryz.f52.name, by decide, Tryz.func52.trans (congrArg some (by kernel_rfl))⟩
  t0 := Tryz.underlying0
  a0 := Tryz.isAgg0
  z0 := Tryz.sizeOf0
  v0 := Tryz.zeroValue0
  t3 := Tryz.underlying3
  a3 := Tryz.isAgg3
  z3 := Tryz.sizeOf3
  v3 := Tryz.zeroValue3
  t4 := Tryz.underlying4
  a4 := Tryz.isAgg4
  z4 := Tryz.sizeOf4
  v4 := Tryz.zeroValue4
  t22 := Tryz.underlying30
  a22 := Tryz.isAgg30
  z22 := Tryz.sizeOf30
  v22 := Tryz.zeroValue30
  t23 := Tryz.underlying3
  a23 := Tryz.isAgg3
  z23 := Tryz.sizeOf3
  v23 := Tryz.zeroValue3 }
end Go.Proofs

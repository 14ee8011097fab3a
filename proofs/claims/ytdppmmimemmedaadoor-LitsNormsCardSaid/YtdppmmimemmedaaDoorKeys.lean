/-
  DERIVED: THE SHELF's CONTRACTS AT THIS DUMP, IN PLAIN WORDS (tools/lay-plain.mjs out of 'TrydKeys.lean', which tools/lay-shelf.mjs wrote): THE SAME DECLARATIONS UNDER THE SAME NAMES: 'import', 'namespace', 'open', 'def', 'theorem' AND NOTHING ELSE: no command of the shelf's: FOR A HAND-IN. Each laying: the table of numbers ('.._ren') and one theorem, a field a fact of the dump's own or the kernel's comparison; each contract: ONE APPLICATION.
-/
import Derived.Shelf.SlIterI.Collect
import Derived.Ground.GgzProg
import Derived.Test.YtdppmmimemmedaaDoorProg
namespace Go.Proofs
open Go.Shelf
def Tryd.keysA_ren : Go.Shelf.Ren := ⟨fun | 7 => 69 | 10 => 89 | n => n, fun | 23 => 89 | 26 => 3 | 3 => 90 | 28 => 98 | 0 => 0 | 27 => 97 | 33 => 61 | 4 => 4 | n => n, fun | n => n⟩
theorem Tryd.keysA : Go.Proofs.SlLaysZI.n7 Tryd.prog Tryd.keysA_ren := {
  mixed := by kernel_rfl
  f7 := ⟨Tryd.f69.name, by decide, Tryd.func69.trans (congrArg some (by kernel_rfl))⟩
  f10 := ⟨Tryd.f89.name, by decide, Tryd.func89.trans (congrArg some (by kernel_rfl))⟩
  t0 := Tryd.underlying0
  a0 := Tryd.isAgg0
  z0 := Tryd.sizeOf0
  v0 := Tryd.zeroValue0
  t4 := Tryd.underlying4
  a4 := Tryd.isAgg4
  z4 := Tryd.sizeOf4
  v4 := Tryd.zeroValue4
  t23 := Tryd.underlying89
  a23 := Tryd.isAgg89
  z23 := Tryd.sizeOf89
  v23 := Tryd.zeroValue89
  t26 := Tryd.underlying3
  a26 := Tryd.isAgg3
  z26 := Tryd.sizeOf3
  v26 := Tryd.zeroValue3
  t27 := Tryd.underlying97
  a27 := Tryd.isAgg97
  z27 := Tryd.sizeOf97
  v27 := Tryd.zeroValue97
  t28 := Tryd.underlying98
  a28 := Tryd.isAgg98
  z28 := Tryd.sizeOf98
  v28 := Tryd.zeroValue98
  t33 := Tryd.underlying61
  a33 := Tryd.isAgg61
  z33 := Tryd.sizeOf61
  v33 := Tryd.zeroValue61 }
def Tryd.collA_ren : Go.Shelf.Ren := ⟨fun | 8 => 87 | 11 => 98 | n => n, fun | 26 => 3 | 28 => 98 | 24 => 27 | 0 => 0 | 33 => 61 | 4 => 4 | n => n, fun | n => n⟩
theorem Tryd.collA : Go.Proofs.SlLaysZI.n8 Tryd.prog Tryd.collA_ren := {
  mixed := by kernel_rfl
  f8 := ⟨Tryd.f87.name, by decide, Tryd.func87.trans (congrArg some (by kernel_rfl))⟩
  f11 := ⟨Tryd.f98.name, by decide, Tryd.func98.trans (congrArg some (by kernel_rfl))⟩
  t0 := Tryd.underlying0
  a0 := Tryd.isAgg0
  z0 := Tryd.sizeOf0
  v0 := Tryd.zeroValue0
  t24 := Tryd.underlying27
  a24 := Tryd.isAgg27
  z24 := Tryd.sizeOf27
  v24 := Tryd.zeroValue27
  t26 := Tryd.underlying3
  a26 := Tryd.isAgg3
  z26 := Tryd.sizeOf3
  v26 := Tryd.zeroValue3
  t28 := Tryd.underlying98
  a28 := Tryd.isAgg98
  z28 := Tryd.sizeOf98
  v28 := Tryd.zeroValue98
  i26 := by kernel_rfl }
end Go.Proofs

/-
  DERIVED: THE SHELF's CONTRACTS AT THIS DUMP, IN PLAIN WORDS (tools/lay-plain.mjs out of 'YtapjjhdopelpjaaSLayS.lean', which tools/lay-shelf.mjs wrote): THE SAME DECLARATIONS UNDER THE SAME NAMES: 'import', 'namespace', 'open', 'def', 'theorem' AND NOTHING ELSE: no command of the shelf's: FOR A HAND-IN. Each laying: the table of numbers ('.._ren') and one theorem, a field a fact of the dump's own or the kernel's comparison; each contract: ONE APPLICATION.
-/
import Derived.Shelf.Slices.Clone
import Derived.Shelf.Slices.SearchI
import Derived.Shelf.Slices.Empties
import Derived.Shelf.Slices.Delete
import Derived.Shelf.Spec.SlicesInsert
import Derived.Shelf.Spec.SlicesInsertGrow
import Derived.Ground.Names2Prog
import Derived.Test.YtapjjhdopelpjaaProg
namespace Go.Proofs
open Go.Shelf
def Try.cloneL_ren : Go.Shelf.Ren := ⟨fun | 15 => 52 | n => n, fun | 22 => 31 | 3 => 3 | 4 => 4 | n => n, fun | n => n⟩
theorem Try.cloneL : Go.Proofs.Lays2.n15 Try.prog Try.cloneL_ren := {
  mixed := by kernel_rfl
  f15 := Try.func52.trans (congrArg some (by kernel_rfl))
  t3 := Try.underlying3
  a3 := Try.isAgg3
  z3 := Try.sizeOf3
  v3 := Try.zeroValue3
  t4 := Try.underlying4
  a4 := Try.isAgg4
  z4 := Try.sizeOf4
  v4 := Try.zeroValue4
  t22 := Try.underlying31
  a22 := Try.isAgg31
  z22 := Try.sizeOf31
  v22 := Try.zeroValue31
  i3 := by kernel_rfl }
def Try.bsL_ren : Go.Shelf.Ren := ⟨fun | 25 => 46 | 31 => 62 | 32 => 63 | 37 => 74 | n => n, fun | 22 => 31 | 3 => 3 | 4 => 4 | 40 => 49 | 0 => 0 | n => n, fun | n => n⟩
theorem Try.bsL : Go.Proofs.Lays2.n25 Try.prog Try.bsL_ren := {
  mixed := by kernel_rfl
  f25 := Try.func46.trans (congrArg some (by kernel_rfl))
  f31 := Try.func62.trans (congrArg some (by kernel_rfl))
  f32 := Try.func63.trans (congrArg some (by kernel_rfl))
  f37 := Try.func74.trans (congrArg some (by kernel_rfl))
  t0 := Try.underlying0
  a0 := Try.isAgg0
  z0 := Try.sizeOf0
  v0 := Try.zeroValue0
  t3 := Try.underlying3
  a3 := Try.isAgg3
  z3 := Try.sizeOf3
  v3 := Try.zeroValue3
  t4 := Try.underlying4
  a4 := Try.isAgg4
  z4 := Try.sizeOf4
  v4 := Try.zeroValue4
  t22 := Try.underlying31
  a22 := Try.isAgg31
  z22 := Try.sizeOf31
  v22 := Try.zeroValue31
  t40 := Try.underlying49
  a40 := Try.isAgg49
  z40 := Try.sizeOf49
  v40 := Try.zeroValue49 }
def Try.delL_ren : Go.Shelf.Ren := ⟨fun | 23 => 54 | n => n, fun | 22 => 31 | 3 => 3 | 4 => 4 | 0 => 0 | n => n, fun | n => n⟩
theorem Try.delL : Go.Proofs.Lays2.n23 Try.prog Try.delL_ren := {
  mixed := by kernel_rfl
  f23 := Try.func54.trans (congrArg some (by kernel_rfl))
  t0 := Try.underlying0
  a0 := Try.isAgg0
  z0 := Try.sizeOf0
  v0 := Try.zeroValue0
  t3 := Try.underlying3
  a3 := Try.isAgg3
  z3 := Try.sizeOf3
  v3 := Try.zeroValue3
  t4 := Try.underlying4
  a4 := Try.isAgg4
  z4 := Try.sizeOf4
  v4 := Try.zeroValue4
  t22 := Try.underlying31
  a22 := Try.isAgg31
  z22 := Try.sizeOf31
  v22 := Try.zeroValue31
  i3 := by kernel_rfl }
def Try.insL_ren : Go.Shelf.Ren := ⟨fun | 21 => 55 | 27 => 75 | 28 => 76 | 35 => 84 | 39 => 86 | n => n, fun | 22 => 31 | 3 => 3 | 4 => 4 | 0 => 0 | n => n, fun | n => n⟩
theorem Try.insL : Go.Proofs.Lays2.n21 Try.prog Try.insL_ren := {
  mixed := by kernel_rfl
  f21 := Try.func55.trans (congrArg some (by kernel_rfl))
  f27 := Try.func75.trans (congrArg some (by kernel_rfl))
  f28 := Try.func76.trans (congrArg some (by kernel_rfl))
  f35 := Try.func84.trans (congrArg some (by kernel_rfl))
  f39 := Try.func86.trans (congrArg some (by kernel_rfl))
  t0 := Try.underlying0
  a0 := Try.isAgg0
  z0 := Try.sizeOf0
  v0 := Try.zeroValue0
  t3 := Try.underlying3
  a3 := Try.isAgg3
  z3 := Try.sizeOf3
  v3 := Try.zeroValue3
  t4 := Try.underlying4
  a4 := Try.isAgg4
  z4 := Try.sizeOf4
  v4 := Try.zeroValue4
  t22 := Try.underlying31
  a22 := Try.isAgg31
  z22 := Try.sizeOf31
  v22 := Try.zeroValue31
  i3 := by kernel_rfl }
end Go.Proofs

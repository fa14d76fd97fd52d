/- Laid at this program by a program: what the library asks of a generic function of the Go library. -/
import Derived.Test.YticebdoiahadoaaDoorRows
import Derived.Shelf.Spec.SlicesInsertGrow
import Derived.Shelf.Slices.SearchI
import Derived.Shelf.Slices.Empties
import Derived.Shelf.SlGeneric
namespace Go.Proofs.YticebdoiahadoaaDoor
open Go.Proofs Go.Shelf
set_option linter.unusedVariables false
def layInsert_ren : Go.Shelf.Ren := ⟨fun | 21 => 23 | 27 => 34 | 28 => 35 | 35 => 41 | 39 => 48 | n => n, fun | 22 => 35 | 3 => 3 | 4 => 4 | 0 => 0 | n => n, fun | n => n⟩
theorem layInsert : Go.Proofs.Lays2.n21 Tryd.prog layInsert_ren := {
  mixed := by kernel_rfl,
  f21 := Tryd.func23.trans (congrArg some (by kernel_rfl)),
  f27 := Tryd.func34.trans (congrArg some (by kernel_rfl)),
  f28 := Tryd.func35.trans (congrArg some (by kernel_rfl)),
  f35 := Tryd.func41.trans (congrArg some (by kernel_rfl)),
  f39 := Tryd.func48.trans (congrArg some (by kernel_rfl)),
  t0 := Tryd.underlying0,
  a0 := Tryd.isAgg0,
  z0 := Tryd.sizeOf0,
  v0 := Tryd.zeroValue0,
  t3 := Tryd.underlying3,
  a3 := Tryd.isAgg3,
  z3 := Tryd.sizeOf3,
  v3 := Tryd.zeroValue3,
  t4 := Tryd.underlying4,
  a4 := Tryd.isAgg4,
  z4 := Tryd.sizeOf4,
  v4 := Tryd.zeroValue4,
  t22 := Tryd.underlying35,
  a22 := Tryd.isAgg35,
  z22 := Tryd.sizeOf35,
  v22 := Tryd.zeroValue35,
  i3 := by kernel_rfl }
def laySearch_ren : Go.Shelf.Ren := ⟨fun | 25 => 22 | 31 => 32 | 32 => 33 | 37 => 40 | n => n, fun | 22 => 35 | 3 => 3 | 4 => 4 | 40 => 79 | 0 => 0 | n => n, fun | n => n⟩
theorem laySearch : Go.Proofs.Lays2.n25 Tryd.prog laySearch_ren := {
  mixed := by kernel_rfl,
  f25 := Tryd.func22.trans (congrArg some (by kernel_rfl)),
  f31 := Tryd.func32.trans (congrArg some (by kernel_rfl)),
  f32 := Tryd.func33.trans (congrArg some (by kernel_rfl)),
  f37 := Tryd.func40.trans (congrArg some (by kernel_rfl)),
  t0 := Tryd.underlying0,
  a0 := Tryd.isAgg0,
  z0 := Tryd.sizeOf0,
  v0 := Tryd.zeroValue0,
  t3 := Tryd.underlying3,
  a3 := Tryd.isAgg3,
  z3 := Tryd.sizeOf3,
  v3 := Tryd.zeroValue3,
  t4 := Tryd.underlying4,
  a4 := Tryd.isAgg4,
  z4 := Tryd.sizeOf4,
  v4 := Tryd.zeroValue4,
  t22 := Tryd.underlying35,
  a22 := Tryd.isAgg35,
  z22 := Tryd.sizeOf35,
  v22 := Tryd.zeroValue35,
  t40 := Tryd.underlying79,
  a40 := Tryd.isAgg79,
  z40 := Tryd.sizeOf79,
  v40 := Tryd.zeroValue79 }
end Go.Proofs.YticebdoiahadoaaDoor

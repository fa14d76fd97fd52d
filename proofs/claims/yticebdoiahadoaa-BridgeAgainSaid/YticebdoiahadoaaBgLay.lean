/- Laid at this program by a program: what the library asks of a generic function of the Go library. -/
import Derived.Test.YticebdoiahadoaaRows
import Derived.Shelf.Spec.SlicesInsertGrow
import Derived.Shelf.Slices.SearchI
import Derived.Shelf.Slices.Empties
import Derived.Shelf.SlGeneric
namespace Go.Proofs.Yticebdoiahadoaa
open Go.Proofs Go.Shelf
set_option linter.unusedVariables false
def layInsert_ren : Go.Shelf.Ren := ⟨fun | 21 => 62 | 27 => 79 | 28 => 80 | 35 => 101 | 39 => 113 | n => n, fun | 22 => 32 | 3 => 3 | 4 => 4 | 0 => 0 | n => n, fun | n => n⟩
theorem layInsert : Go.Proofs.Lays2.n21 Try.prog layInsert_ren := {
  mixed := by kernel_rfl,
  f21 := Try.func62.trans (congrArg some (by kernel_rfl)),
  f27 := Try.func79.trans (congrArg some (by kernel_rfl)),
  f28 := Try.func80.trans (congrArg some (by kernel_rfl)),
  f35 := Try.func101.trans (congrArg some (by kernel_rfl)),
  f39 := Try.func113.trans (congrArg some (by kernel_rfl)),
  t0 := Try.underlying0,
  a0 := Try.isAgg0,
  z0 := Try.sizeOf0,
  v0 := Try.zeroValue0,
  t3 := Try.underlying3,
  a3 := Try.isAgg3,
  z3 := Try.sizeOf3,
  v3 := Try.zeroValue3,
  t4 := Try.underlying4,
  a4 := Try.isAgg4,
  z4 := Try.sizeOf4,
  v4 := Try.zeroValue4,
  t22 := Try.underlying32,
  a22 := Try.isAgg32,
  z22 := Try.sizeOf32,
  v22 := Try.zeroValue32,
  i3 := by kernel_rfl }
def laySearch_ren : Go.Shelf.Ren := ⟨fun | 25 => 61 | 31 => 77 | 32 => 78 | 37 => 100 | n => n, fun | 22 => 32 | 3 => 3 | 4 => 4 | 40 => 129 | 0 => 0 | n => n, fun | n => n⟩
theorem laySearch : Go.Proofs.Lays2.n25 Try.prog laySearch_ren := {
  mixed := by kernel_rfl,
  f25 := Try.func61.trans (congrArg some (by kernel_rfl)),
  f31 := Try.func77.trans (congrArg some (by kernel_rfl)),
  f32 := Try.func78.trans (congrArg some (by kernel_rfl)),
  f37 := Try.func100.trans (congrArg some (by kernel_rfl)),
  t0 := Try.underlying0,
  a0 := Try.isAgg0,
  z0 := Try.sizeOf0,
  v0 := Try.zeroValue0,
  t3 := Try.underlying3,
  a3 := Try.isAgg3,
  z3 := Try.sizeOf3,
  v3 := Try.zeroValue3,
  t4 := Try.underlying4,
  a4 := Try.isAgg4,
  z4 := Try.sizeOf4,
  v4 := Try.zeroValue4,
  t22 := Try.underlying32,
  a22 := Try.isAgg32,
  z22 := Try.sizeOf32,
  v22 := Try.zeroValue32,
  t40 := Try.underlying129,
  a40 := Try.isAgg129,
  z40 := Try.sizeOf129,
  v40 := Try.zeroValue129 }
end Go.Proofs.Yticebdoiahadoaa

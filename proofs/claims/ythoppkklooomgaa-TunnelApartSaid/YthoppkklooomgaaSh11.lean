/- The statements' own functions 'few' and 'shown' (layer 11). -/
import Derived.Test.YthoppkklooomgaaVx
namespace Go.Proofs.Ythoppkklooomgaa
open Go.RowKit
set_option linter.unusedVariables false
theorem make14 (w : World) : (Instr.makeSlice 36 (.int .i64 14) (.int .i64 14)).run Try.prog w =
    .ok (.slice (some ⟨w.heap.size, 0, none⟩) 14 14) (w.alloc (.cells (List.replicate 14 (.int .u8 0)).toArray 5)) := by kernel_rfl

/-- Fourteen bytes of nothing. -/
def zero14 : List UInt8 := List.replicate 14 0

def ShownOk (w : World) (e : Ending) (w' : World) : Prop := e = .returned (.bool true) ∧ Fr No w w'

theorem short_two : Short [vxlanS, octetsS] := by
  refine ⟨fun s hs => ?_, by simp⟩
  simp only [List.mem_cons, List.not_mem_nil, or_false] at hs
  rcases hs with rfl | rfl <;> decide

theorem shown11_txt : txt [vxlanS, octetsS] 2 = ⟨#[118, 120, 108, 97, 110, 58, 32, 111, 99, 116, 101, 116, 115, 58, 32, 101, 114, 114, 111, 114, 32, 50]⟩ := by decide +kernel

end Go.Proofs.Ythoppkklooomgaa
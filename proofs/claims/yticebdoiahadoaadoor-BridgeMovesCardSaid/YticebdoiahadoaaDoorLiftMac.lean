/- MACs and places that came in. -/
import Derived.Test.YticebdoiahadoaaDoorLiftLeaf
import Derived.Test.YticebdoiahadoaaDoorFdQ
namespace Go.Proofs.YticebdoiahadoaaDoor
open Go.RowKit Go.Deep Go.ChangeShapes Go.WideShapes
set_option linter.unusedVariables false
theorem okWide_arr {P : Program} {w : World} {r : Reach} {base : Nat} {t e : TypeId} {n : Nat} {v : Value} (ht : P.underlying t = some (.array n e)) (h : Value.okWide P w r base t v) : ∃ cs, v = .agg cs ∧ cs.size = P.cellsOf t := by
  simp only [Value.okWide, ht] at h
  obtain ⟨cs, h1, h2, _⟩ := h
  exact ⟨cs, h1, h2⟩
theorem list6 {α : Type} {l : List α} (h : l.length = 6) : ∃ a b c d e f, l = [a, b, c, d, e, f] := by
  match l, h with
  | [a, b, c, d, e, f], _ => exact ⟨a, b, c, d, e, f, rfl⟩
theorem list2 {α : Type} {l : List α} (h : l.length = 2) : ∃ a b, l = [a, b] := by
  match l, h with
  | [a, b], _ => exact ⟨a, b, rfl⟩
section
variable {H : Type} {enc : TypeId × Value → H} {w : World} {base : Nat} {spare : Nat → Bool} {held : Bool} {r : Reach} {b0 : Nat} {v : Value} {d : DataW H} {p : List MemPlace}
set_option maxRecDepth 100000 in
theorem open_mac (hv : Value.okWide Tryd.prog w r b0 24 v) (h : DataW.Trod enc Tryd.prog w base spare held 24 v d p) : ∃ m : Mac, v = evM m ∧ True := by
  obtain ⟨cs, rfl, hsz⟩ := okWide_arr Tryd.underlying24 hv
  obtain ⟨cs⟩ := cs
  have hC : Tryd.prog.cellsOf 24 = 6 := by kernel_rfl
  rw [hC] at hsz
  obtain ⟨fuel, hf⟩ := h
  have hlv : leaves Tryd.prog 1 24 = [(0, 5), (1, 5), (2, 5), (3, 5), (4, 5), (5, 5)] := by kernel_rfl
  obtain ⟨x0, x1, x2, x3, x4, x5, rfl⟩ := list6 (show cs.length = 6 by simpa using hsz)
  obtain ⟨z0, c0, w0⟩ := leaf_int (k := .u8) 1 hf (o := 0) (u := 5) (by rw [hlv]; simp) Tryd.underlying5
  obtain ⟨z1, c1, w1⟩ := leaf_int (k := .u8) 1 hf (o := 1) (u := 5) (by rw [hlv]; simp) Tryd.underlying5
  obtain ⟨z2, c2, w2⟩ := leaf_int (k := .u8) 1 hf (o := 2) (u := 5) (by rw [hlv]; simp) Tryd.underlying5
  obtain ⟨z3, c3, w3⟩ := leaf_int (k := .u8) 1 hf (o := 3) (u := 5) (by rw [hlv]; simp) Tryd.underlying5
  obtain ⟨z4, c4, w4⟩ := leaf_int (k := .u8) 1 hf (o := 4) (u := 5) (by rw [hlv]; simp) Tryd.underlying5
  obtain ⟨z5, c5, w5⟩ := leaf_int (k := .u8) 1 hf (o := 5) (u := 5) (by rw [hlv]; simp) Tryd.underlying5
  cases c0; cases c1; cases c2; cases c3; cases c4; cases c5
  obtain ⟨b0, rfl⟩ := byte_of w0
  obtain ⟨b1, rfl⟩ := byte_of w1
  obtain ⟨b2, rfl⟩ := byte_of w2
  obtain ⟨b3, rfl⟩ := byte_of w3
  obtain ⟨b4, rfl⟩ := byte_of w4
  obtain ⟨b5, rfl⟩ := byte_of w5
  exact ⟨⟨b0, b1, b2, b3, b4, b5⟩, rfl, trivial⟩
set_option maxRecDepth 100000 in
theorem open_place (hv : Value.okWide Tryd.prog w r b0 34 v) (h : DataW.Trod enc Tryd.prog w base spare held 34 v d p) : ∃ q : Pl, v = evPL q ∧ (-9223372036854775808 ≤ q.n ∧ q.n ≤ 9223372036854775807) := by
  obtain ⟨cs, rfl, hsz⟩ := okWide_struct Tryd.underlying34 hv
  obtain ⟨cs⟩ := cs
  have hC : Tryd.prog.cellsOf 34 = 2 := by kernel_rfl
  rw [hC] at hsz
  obtain ⟨fuel, hf⟩ := h
  have hlv : leaves Tryd.prog 1 34 = [(0, 4), (1, 3)] := by kernel_rfl
  obtain ⟨x0, x1, rfl⟩ := list2 (show cs.length = 2 by simpa using hsz)
  obtain ⟨z0, c0⟩ := leaf_bool 1 hf (o := 0) (u := 4) (by rw [hlv]; simp) Tryd.underlying4
  obtain ⟨z1, c1, w1⟩ := leaf_int (k := .i64) 1 hf (o := 1) (u := 3) (by rw [hlv]; simp) Tryd.underlying3
  cases c0; cases c1
  exact ⟨⟨z0, z1⟩, rfl, wf_i64 w1⟩
end
end Go.Proofs.YticebdoiahadoaaDoor
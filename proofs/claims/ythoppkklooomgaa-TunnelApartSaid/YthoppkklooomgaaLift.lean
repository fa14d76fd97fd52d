/- What a walk is told of a slice of bytes that came in, as 'Bs'. -/
import Derived.Test.YthoppkklooomgaaBase
import Derived.OpenShut
namespace Go.Proofs.Ythoppkklooomgaa
open Go.RowKit
set_option linter.unusedVariables false
theorem wf_u32 {n : Int} (h : (Lit.int .u32 n).wf = true) : 0 ≤ n ∧ n < 4294967296 := by
  simp [Lit.wf, IntKind.min, IntKind.max, IntKind.signed, IntKind.bits] at h
  omega
theorem wf_u8 {n : Int} (h : (Lit.int .u8 n).wf = true) : 0 ≤ n ∧ n < 256 := by
  simp [Lit.wf, IntKind.min, IntKind.max, IntKind.signed, IntKind.bits] at h
  omega
theorem byte_of {n : Int} (h : (Lit.int .u8 n).wf = true) : ∃ c : UInt8, n = (c.toNat : Int) := by
  have := wf_u8 h
  refine ⟨UInt8.ofNat n.toNat, ?_⟩
  rw [UInt8.toNat_ofNat']
  omega
theorem wf_i64 {n : Int} (h : (Lit.int .i64 n).wf = true) : -9223372036854775808 ≤ n ∧ n ≤ 9223372036854775807 := by
  simp [Lit.wf, IntKind.min, IntKind.max, IntKind.signed, IntKind.bits] at h
  omega
theorem bs_of_row {w : World} {a : Option Addr} {len cap : Nat} {zs : List Int}
    (h : (a = none ∧ len = 0 ∧ cap = 0 ∧ zs = []) ∨ ∃ x, a = some x ∧ len ≤ cap ∧ cap ≤ maxLen ∧ zs.length = cap ∧ (∀ i, i < zs.length → w.cell? (x.add i) = some (.int .u8 (zs.getD i 0))) ∧ ∀ n ∈ zs, (Lit.int .u8 n).wf = true) :
    ∃ bs, Bs w a len cap bs := by
  rcases h with ⟨rfl, rfl, rfl, rfl⟩ | ⟨x, rfl, h1, h2, h3, h4, h5⟩
  · exact ⟨[], rfl, Sl.nil w⟩
  · refine ⟨(zs.take len).map fun z => UInt8.ofNat z.toNat, by simp; omega, h1, by unfold maxLen at h2; omega, fun h => (by cases h), fun a ha j u hu => ?_⟩
    cases ha
    simp only [bytesV, List.map_map, List.getElem?_map, Option.map_eq_some_iff] at hu
    obtain ⟨z, hz, rfl⟩ := hu
    rw [List.getElem?_take] at hz
    split at hz
    · have hj : j < zs.length := (List.getElem?_eq_some_iff.1 hz).1
      rw [h4 j hj]
      have hm : z ∈ zs := List.mem_of_getElem? hz
      have hw := bounds_u8 (h5 z hm)
      have e : zs.getD j 0 = z := by simp [List.getD, hz]
      rw [e]
      have e2 : ((UInt8.ofNat z.toNat).toNat : Int) = z := by simp only [UInt8.toNat_ofNat']; omega
      show some (Value.int .u8 z) = some (Value.int .u8 _)
      rw [e2]
    · cases hz

end Go.Proofs.Ythoppkklooomgaa
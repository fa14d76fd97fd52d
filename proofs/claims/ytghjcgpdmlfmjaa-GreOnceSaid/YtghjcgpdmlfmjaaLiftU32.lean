/- A slice of numbers of 32 bits that came in, as 'Us'. -/
import Derived.Test.YtghjcgpdmlfmjaaLift
import Derived.Test.YtghjcgpdmlfmjaaGreRef
namespace Go.Proofs.Ytghjcgpdmlfmjaa
open Go.RowKit
set_option linter.unusedVariables false

theorem us_of_row {w : World} {a : Option Addr} {len cap : Nat} {zs : List Int}
    (h : (a = none ∧ len = 0 ∧ cap = 0 ∧ zs = []) ∨ ∃ x, a = some x ∧ len ≤ cap ∧ cap ≤ maxLen ∧ zs.length = cap ∧ (∀ i, i < zs.length → w.cell? (x.add i) = some (.int .u32 (zs.getD i 0))) ∧ ∀ n ∈ zs, (Lit.int .u32 n).wf = true) :
    ∃ us, Us w a len cap us := by
  rcases h with ⟨rfl, rfl, rfl, rfl⟩ | ⟨x, rfl, h1, h2, h3, h4, h5⟩
  · exact ⟨[], rfl, Sl.nil w, by simp⟩
  · refine ⟨(zs.take len).map Int.toNat, by simp; omega, ⟨h1, by unfold maxLen at h2; omega, fun h => (by cases h), fun a ha j u hu => ?_⟩, ?_⟩
    · cases ha
      simp only [List.map_map, List.getElem?_map, Option.map_eq_some_iff] at hu
      obtain ⟨z, hz, rfl⟩ := hu
      rw [List.getElem?_take] at hz
      split at hz
      · have hj : j < zs.length := (List.getElem?_eq_some_iff.1 hz).1
        rw [h4 j hj]
        have hw := wf_u32 (h5 z (List.mem_of_getElem? hz))
        have e : zs.getD j 0 = z := by simp [List.getD, hz]
        rw [e]
        show some (Value.int .u32 z) = some (Value.int .u32 (z.toNat : Int))
        rw [Int.toNat_of_nonneg hw.1]
      · cases hz
    · intro u hu
      obtain ⟨z, hz, rfl⟩ := List.mem_map.1 hu
      have hw := wf_u32 (h5 z (List.mem_of_mem_take hz))
      omega

end Go.Proofs.Ytghjcgpdmlfmjaa

/- A store into bytes that are owned. -/
import Derived.Test.YthoppkklooomgaaBase
namespace Go.Proofs.Ythoppkklooomgaa
open Go.RowKit
set_option linter.unusedVariables false
theorem OB.store {w : World} {e g n cap : Nat} {bs : List UInt8} (h : OB w e (some ⟨g, 0, none⟩) n cap bs) (k : Nat) (hk : k < n) (c : UInt8) :
    OB (w.setCell ⟨g, k, none⟩ (byteV c)) e (some ⟨g, 0, none⟩) n cap (bs.set k c) ∧ Fr (Is g) w (w.setCell ⟨g, k, none⟩ (byteV c)) ∧
      (∃ u, w.cell? ⟨g, k, none⟩ = some u) ∧ w.frozen? ⟨g, k, none⟩ = false := by
  obtain ⟨hn, ho⟩ := h
  obtain ⟨h1, cur, h2, h3, h4⟩ := ho.row _ rfl
  have hkc : k < cur.size := by have := ho.le; omega
  refine ⟨⟨by simpa using hn, ⟨by rw [bytesV_length, List.length_set]; omega, ho.le, ho.capLe, fun h => (by cases h), fun a ha => ?_⟩⟩, Fr.setCell (Fr.refl (Is g) w) (p := ⟨g, k, none⟩) (.inl (show g = g from rfl)) _, ⟨cur[k], ?_⟩, frozen_of_row w g k cur e h2⟩
  · cases ha
    refine ⟨rfl, cur.setIfInBounds k (byteV c), heap_setCell_same w g k cur e (byteV c) h2, by simpa using h3, ?_⟩
    rw [Array.toList_setIfInBounds, List.take_set, h4]
    simp [bytesV, List.map_set]
  · rw [cell_of_row w g k cur e (0, 0) h2]
    simp [hkc]

end Go.Proofs.Ythoppkklooomgaa
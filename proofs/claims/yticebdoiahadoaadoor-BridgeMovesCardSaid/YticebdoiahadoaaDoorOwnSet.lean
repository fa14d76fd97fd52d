/- Stores into rows that are owned. -/
import Derived.Test.YticebdoiahadoaaDoorBase
import Derived.Lib.SliceRun
namespace Go.Proofs.YticebdoiahadoaaDoor
open Go.RowKit
set_option linter.unusedVariables false
set_option linter.unusedSimpArgs false
/-- A store into an owned row. -/
theorem Own.setCell {w : World} {e size n cap : Nat} {g : Nat} {xs : List Value} (h : Own w e size (some ⟨g, 0, none⟩) n cap xs) {j : Nat} (u : Value) :
    Own (w.setCell ⟨g, j, none⟩ u) e size (some ⟨g, 0, none⟩) n cap (xs.set j u) := by
  refine ⟨by simp [h.len], h.le, h.capLe, h.nocap, fun a ha => ?_⟩
  cases ha
  obtain ⟨-, cur, h2, h3, h4⟩ := h.row _ rfl
  refine ⟨rfl, cur.set! j u, ?_, by simp [h3], ?_⟩
  · simp only [World.setCell, Array.getElem?_modify, if_true, h2, Option.map_some, Option.isSome_none, Bool.false_eq_true, if_false, Array.set!_eq_setIfInBounds]
  · rw [← h4, Array.set!_eq_setIfInBounds, Array.toList_setIfInBounds, List.take_set]
theorem Own.take {w : World} {e n cap : Nat} {ao : Option Addr} {xs : List Value} (h : Own w e 1 ao n cap xs) {k : Nat} (hk : k ≤ n) : Own w e 1 ao k cap (xs.take k) := by
  refine ⟨by rw [List.length_take, h.len]; omega, Nat.le_trans hk h.le, h.capLe, h.nocap, fun a ha => ?_⟩
  obtain ⟨h1, cur, h2, h3, h4⟩ := h.row a ha
  refine ⟨h1, cur, h2, h3, ?_⟩
  rw [← h4, List.take_take]
  congr 1
  omega
theorem Own.free1 {w : World} {e size n cap : Nat} {g : Nat} {xs : List Value} (h : Own w e size (some ⟨g, 0, none⟩) n cap xs) (j : Nat) : w.frozen? ⟨g, j, none⟩ = false := by
  obtain ⟨-, cur, h2, -⟩ := h.row _ rfl
  exact frozen_of_row w g _ _ e h2

theorem Own.setCells {e n cap g : Nat} {xs : List Value} : ∀ (vs : List Value) (o : Nat) (w : World), Own w e 1 (some ⟨g, 0, none⟩) n cap xs → n ≤ o → Own (w.setCells g o vs) e 1 (some ⟨g, 0, none⟩) n cap xs
  | [], _, _, h, _ => h
  | v :: r, o, w, h, ho => by
    have h1 := h.setCell (j := o) v
    rw [List.set_eq_of_length_le (by rw [h.len]; omega)] at h1
    exact Own.setCells r (o + 1) _ h1 (by omega)
theorem Fr.setCells {S : Nat → Prop} {a : World} {g : Nat} (hg : S g) : ∀ (vs : List Value) (o : Nat) (w : World), Fr S a w → Fr S a (w.setCells g o vs)
  | [], _, _, h => h
  | v :: r, o, w, h => Fr.setCells hg r (o + 1) _ (h.setCell (p := ⟨g, o, none⟩) (.inl hg) v)

end Go.Proofs.YticebdoiahadoaaDoor
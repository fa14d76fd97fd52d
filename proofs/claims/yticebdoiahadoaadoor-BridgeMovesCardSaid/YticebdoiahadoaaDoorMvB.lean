/- bridge laws: who moves: rows of places, the variable api.All, bytes with a bit turned. -/
import Derived.Test.YticebdoiahadoaaDoorMv
import Derived.Test.YticebdoiahadoaaDoorBits
namespace Go.Proofs.YticebdoiahadoaaDoor
open Go.RowKit
set_option linter.unusedVariables false
set_option linter.unusedSimpArgs false
/-- The variable api.All. -/
def EG (w : World) : Prop := ∀ i, i < 6 → w.cell? ⟨0, i, none⟩ = some (.int .u8 255)
theorem EG.no {w w' : World} (h : EG w) (hf : Fr No w w') : EG w' := fun i hi => hf.cell (h i hi) (fun h => h)
theorem EG.cells {w : World} (h : EG w) : w.cell? ⟨0, 0, none⟩ = some (.int .u8 255) ∧ w.cell? ⟨0, 1, none⟩ = some (.int .u8 255) ∧ w.cell? ⟨0, 2, none⟩ = some (.int .u8 255) ∧ w.cell? ⟨0, 3, none⟩ = some (.int .u8 255) ∧ w.cell? ⟨0, 4, none⟩ = some (.int .u8 255) ∧ w.cell? ⟨0, 5, none⟩ = some (.int .u8 255) :=
  ⟨h 0 (by omega), h 1 (by omega), h 2 (by omega), h 3 (by omega), h 4 (by omega), h 5 (by omega)⟩
/-- A row of places. -/
def Ps (w : World) (ao : Option Addr) (n cap : Nat) (xs : List Pl) : Prop :=
  n = xs.length ∧ n ≤ cap ∧ cap ≤ 9223372036854775807 ∧ (ao = none → cap = 0) ∧ (∀ a, ao = some a → ∀ i x, xs[i]? = some x → w.cell? (a.add (i * 2)) = some (.bool x.tun) ∧ w.cell? ⟨(a.add (i * 2)).block, (a.add (i * 2)).off + 1, none⟩ = some (.int .i64 x.n)) ∧ ∀ x ∈ xs, okI x.n
theorem u8_even (x : UInt8) : ∃ y : UInt8, bits .andNot .u8 (x.toNat : Int) 1 = (y.toNat : Int) ∧ y.toNat % 2 = 0 := by
  have h : ∀ n : Fin 256, bits .andNot .u8 ((n : Nat) : Int) 1 = (((n : Nat) / 2 * 2 : Nat) : Int) := by decide +kernel
  have hx := x.toNat_lt
  have h1 := h ⟨x.toNat, hx⟩
  refine ⟨UInt8.ofNat (x.toNat / 2 * 2), ?_, ?_⟩
  · rw [h1, UInt8.toNat_ofNat']
    simp only
    congr 1
    omega
  · rw [UInt8.toNat_ofNat']
    omega
theorem u8_turn (x : UInt8) : ∃ y : UInt8, bits .xor .u8 (x.toNat : Int) 1 = (y.toNat : Int) ∧ y ≠ x := by
  have h : ∀ n : Fin 256, bits .xor .u8 ((n : Nat) : Int) 1 = (((n : Nat) ^^^ 1 : Nat) : Int) ∧ (n : Nat) ^^^ 1 < 256 ∧ (n : Nat) ^^^ 1 ≠ (n : Nat) := by decide +kernel
  have hx := x.toNat_lt
  obtain ⟨h1, h2, h3⟩ := h ⟨x.toNat, hx⟩
  simp only at h1 h2 h3
  refine ⟨UInt8.ofNat (x.toNat ^^^ 1), ?_, ?_⟩
  · rw [h1, UInt8.toNat_ofNat']
    congr 1
    omega
  · intro e
    have := congrArg UInt8.toNat e
    rw [UInt8.toNat_ofNat'] at this
    apply h3
    omega
end Go.Proofs.YticebdoiahadoaaDoor
/- Cut: plain laws. -/
import Derived.Test.YtapiaaffnhmmiaaRt1
namespace Go.Proofs.Ytapiaaffnhmmiaa
open Go.RowKit
set_option linter.unusedVariables false
set_option linter.unusedSimpArgs false

theorem cut_two (x : Int) (i j : Nat) : (x - x % 2 ^ i) - (x - x % 2 ^ i) % 2 ^ j = x - x % 2 ^ (max i j) := by
  have hp : ∀ n : Nat, (0 : Int) < 2 ^ n := fun n => Int.pow_pos (by omega)
  rcases Nat.le_total j i with h | h
  · rw [Nat.max_eq_left h]
    obtain ⟨k, rfl⟩ : ∃ k, i = j + k := ⟨i - j, by omega⟩
    have h1 : (x - x % 2 ^ (j + k)) % 2 ^ j = 0 := by
      have e := Int.emod_add_mul_ediv x (2 ^ (j + k))
      have e2 : x - x % 2 ^ (j + k) = 2 ^ j * (2 ^ k * (x / 2 ^ (j + k))) := by rw [← Int.mul_assoc, ← Int.pow_add]; omega
      rw [e2, Int.mul_emod_right]
    rw [h1]; omega
  · rw [Nat.max_eq_right h]
    obtain ⟨k, rfl⟩ : ∃ k, j = i + k := ⟨j - i, by omega⟩
    have e := Int.emod_add_mul_ediv x (2 ^ (i + k))
    have hr0 := Int.emod_nonneg x (show (2 : Int) ^ (i + k) ≠ 0 from by have := hp (i + k); omega)
    have hr1 := Int.emod_lt_of_pos x (hp (i + k))
    generalize x % 2 ^ (i + k) = r at *
    generalize x / 2 ^ (i + k) = q at *
    have hm : x % 2 ^ i = r % 2 ^ i := by
      rw [← e, Int.pow_add, Int.mul_assoc, Int.add_mul_emod_self_left]
    have h0 := Int.emod_nonneg r (show (2 : Int) ^ i ≠ 0 from by have := hp i; omega)
    have h1 : r % 2 ^ i ≤ r := by
      have := Int.emod_add_mul_ediv r (2 ^ i)
      have h2 : 0 ≤ 2 ^ i * (r / 2 ^ i) := Int.mul_nonneg (by have := hp i; omega) (Int.ediv_nonneg hr0 (by have := hp i; omega))
      omega
    rw [hm]
    have e3 : x - r % 2 ^ i = (r - r % 2 ^ i) + 2 ^ (i + k) * q := by omega
    have e4 : (x - r % 2 ^ i) % 2 ^ (i + k) = r - r % 2 ^ i := by
      rw [e3, Int.add_mul_emod_self_left, Int.emod_eq_of_lt (by omega) (by omega)]
    rw [e4]; omega
theorem cutN_two (x a b : Int) : cutN (cutN x a) b = cutN x (min a b) := by
  unfold cutN
  rw [cut_two]
  congr 3
  omega
theorem cutN_le (x b : Int) (h : 0 ≤ x) : cutN x b ≤ x := by
  unfold cutN
  have := Int.emod_nonneg x (show (2 : Int) ^ (min (32 - b).toNat 32) ≠ 0 from by have : (0 : Int) < 2 ^ (min (32 - b).toNat 32) := Int.pow_pos (by omega); omega)
  omega
theorem cutN_0 (x : Int) (h0 : 0 ≤ x) (h1 : x < 4294967296) : cutN x 0 = 0 := by
  unfold cutN
  rw [show min ((32 : Int) - 0).toNat 32 = 32 from rfl, Int.emod_eq_of_lt h0 (by omega)]
  omega
theorem cutN_self (x b : Int) : cutN (cutN x b) b = cutN x b := by rw [cutN_two]; congr 1; omega
end Go.Proofs.Ytapiaaffnhmmiaa

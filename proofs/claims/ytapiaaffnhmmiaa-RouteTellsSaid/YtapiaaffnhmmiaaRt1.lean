/- route: Cut, New. -/
import Derived.Test.YtapiaaffnhmmiaaBase
import Derived.Test.YtapiaaffnhmmiaaBits
import Derived.Laws.BitsAllLaws
namespace Go.Proofs.Ytapiaaffnhmmiaa
open Go.RowKit
set_option linter.unusedVariables false

/-- The beginning of an address. -/
def cutN (ip b : Int) : Int := ip - ip % 2 ^ (min (32 - b).toNat 32)

theorem nat_high (x n : Nat) (hx : x < 2 ^ 32) (hn : n ≤ 32) : x &&& (2 ^ 32 - 2 ^ n) = x - x % 2 ^ n := by
  have e1 : 2 ^ 32 - 2 ^ n = (2 ^ (32 - n) - 1) <<< n := by
    rw [Nat.shiftLeft_eq, Nat.sub_mul, ← Nat.pow_add, Nat.sub_add_cancel hn, Nat.one_mul]
  have e2 : x - x % 2 ^ n = (x >>> n) <<< n := by
    rw [Nat.shiftLeft_eq, Nat.shiftRight_eq_div_pow]
    have := Nat.div_add_mod x (2 ^ n)
    rw [Nat.mul_comm] at this
    omega
  rw [e1, e2]
  apply Nat.eq_of_testBit_eq
  intro i
  rw [Nat.testBit_and, Nat.testBit_shiftLeft, Nat.testBit_shiftLeft, Nat.testBit_shiftRight, Nat.testBit_two_pow_sub_one]
  by_cases hi : n ≤ i
  · rw [show n + (i - n) = i by omega]
    by_cases h2 : i < 32
    · have : i - n < 32 - n := by omega
      simp [hi, this]
    · have : x.testBit i = false := Nat.testBit_lt_two_pow (Nat.lt_of_lt_of_le hx (Nat.pow_le_pow_right (by omega) (by omega)))
      simp [this]
  · simp [hi]
theorem andNot_mask (ip : Int) (n : Nat) (h0 : 0 ≤ ip) (h1 : ip < 4294967296) (hn : n ≤ 32) : bits .andNot .u32 ip (2 ^ n - 1) = ip - ip % 2 ^ n := by
  have hp : (2 : Nat) ^ n ≤ 2 ^ 32 := Nat.pow_le_pow_right (by omega) hn
  have hp0 : 0 < (2 : Nat) ^ n := Nat.pos_of_ne_zero (by simp)
  have ei : ((2 : Int) ^ n) = ((2 ^ n : Nat) : Int) := by simp
  have e : ((2 : Int) ^ n - 1) = ((2 ^ n - 1 : Nat) : Int) := by
    rw [ei]
    generalize (2 ^ n : Nat) = p at *
    omega
  obtain ⟨x, rfl⟩ := Int.eq_ofNat_of_zero_le h0
  rw [e, u32_andNot_nat x _ (by omega) (by omega), show 4294967295 - (2 ^ n - 1) = 2 ^ 32 - 2 ^ n by omega, nat_high x n (by omega) hn, ei]
  have := Nat.mod_le x (2 ^ n)
  omega
theorem cutN_32 (ip b : Int) (h : 32 ≤ b) : cutN ip b = ip := by
  unfold cutN
  rw [show min (32 - b).toNat 32 = 0 by omega]
  simp
theorem pow_lt32 (n : Nat) (hn : n ≤ 32) : (2 : Int) ^ n ≤ 4294967296 ∧ 1 ≤ (2 : Int) ^ n := by
  have h1 : (2 : Nat) ^ n ≤ 2 ^ 32 := Nat.pow_le_pow_right (by omega) hn
  have h2 : 0 < (2 : Nat) ^ n := Nat.pos_of_ne_zero (by simp)
  have ei : ((2 : Int) ^ n) = ((2 ^ n : Nat) : Int) := by simp
  omega
theorem cutN_bd (ip b : Int) (h0 : 0 ≤ ip) (h1 : ip < 4294967296) : 0 ≤ cutN ip b ∧ cutN ip b < 4294967296 := by
  unfold cutN
  obtain ⟨h, h'⟩ := pow_lt32 (min (32 - b).toNat 32) (by omega)
  generalize (2 : Int) ^ (min (32 - b).toNat 32) = p at *
  have := Int.emod_nonneg ip (show p ≠ 0 by omega)
  have := Int.emod_lt_of_pos ip (show 0 < p by omega)
  have h2 := Int.emod_add_mul_ediv ip p
  have h3 : 0 ≤ p * (ip / p) := Int.mul_nonneg (by omega) (Int.ediv_nonneg h0 (by omega))
  omega

theorem rtCut_any {ip b : Int} (w : World) (h0 : 0 ≤ ip) (h1 : ip < 4294967296) : Calls Try.prog 19 #[.int .u32 ip, .int .i64 b] w fun e w' => e = .returned (.int .u32 (cutN ip b)) ∧ w = w' := by
  have H : ∀ x, cutN ip b = x → Hid (cutN ip b = x) := fun _ h => Lib.hid h
  by_cases hb : 32 < b
  · have h := H _ (cutN_32 ip b (by omega))
    clear H
    go_enter Try.func19, Try.ntmps19
    go_wp2
    all_goals go_ret
    all_goals rw [h.out]
    all_goals refine ⟨?_, rfl⟩
    all_goals (have e := andNot_mask ip 0 h0 h1 (by omega); simp at e; rw [e]; rfl)
  · by_cases hb0 : b < 0
    · have h := H (ip - ip % 2 ^ 32) (by unfold cutN; rw [show min (32 - b).toNat 32 = 32 by omega])
      clear H
      go_enter Try.func19, Try.ntmps19
      go_wp2
      all_goals go_ret
      all_goals rw [h.out]
      all_goals refine ⟨?_, rfl⟩
      all_goals (have e := andNot_mask ip 32 h0 h1 (by omega); rw [← e]; rfl)
    · have h := H (ip - ip % 2 ^ (32 - b).toNat) (by unfold cutN; rw [show min (32 - b).toNat 32 = (32 - b).toNat by omega])
      have hp := pow_lt32 (32 - b).toNat (by omega)
      have e := Lib.hid (andNot_mask ip (32 - b).toNat h0 h1 (by omega))
      clear H
      go_enter Try.func19, Try.ntmps19
      go_wp2
      all_goals go_ret
      all_goals rw [h.out, ← e.out]
      all_goals refine ⟨?_, rfl⟩
      all_goals (rw [Int.emod_eq_of_lt (by omega) (by omega)]; rfl)

end Go.Proofs.Ytapiaaffnhmmiaa

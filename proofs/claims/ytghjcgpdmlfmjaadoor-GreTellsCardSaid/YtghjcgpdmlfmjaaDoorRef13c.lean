/- The reference of layer 13: Decap, the plain law. -/
import Derived.Test.YtghjcgpdmlfmjaaDoorRef13b
namespace Go.Proofs.YtghjcgpdmlfmjaaDoor
open Go.RowKit
set_option linter.unusedVariables false

def hdrV : GRes → Value
  | .ok s k key q seq _ => .agg #[.bool s, .bool k, .int .u32 key, .bool q, .int .u32 seq]
  | .no _ _ => zeroH
def outB : GRes → List UInt8
  | .ok _ _ _ _ _ fs => fs
  | .no _ _ => []
def codeG : GRes → Int
  | .ok _ _ _ _ _ _ => 0
  | .no _ c => c
def innerG : GRes → Bool
  | .ok _ _ _ _ _ _ => false
  | .no i _ => i

theorem land_bad : ∀ a < 256, ∀ b < 256, ((a * 256 + b) &&& 20479 != 0) = !(decide (a % 16 = 0) && decide (a / 64 % 2 = 0) && decide (b = 0)) := by decide +kernel
theorem bits_bad (a : Nat) (ha : a < 256) (b : Nat) (hb : b < 256) : (bits .and .u32 ((a * 256 + b : Nat) : Int) 20479 != 0) = !(decide (a % 16 = 0) && decide (a / 64 % 2 = 0) && decide (b = 0)) := by
  have e : bits .and .u32 ((a * 256 + b : Nat) : Int) 20479 = (((a * 256 + b) &&& 20479 : Nat) : Int) := u32_and_nat _ 20479 (by omega) (by omega)
  rw [e, ← land_bad a ha b hb]
  generalize (a * 256 + b) &&& 20479 = x
  cases x with
  | zero => rfl
  | succ x => rfl
theorem bits_s : ∀ a < 256, (bits .and .u16 ((a * 256 : Nat) : Int) 32768 != 0) = decide (128 ≤ a) := by decide +kernel
theorem bits_k : ∀ a < 256, (bits .and .u16 ((a * 256 : Nat) : Int) 8192 != 0) = decide (a / 32 % 2 = 1) := by decide +kernel
theorem bits_q : ∀ a < 256, (bits .and .u16 ((a * 256 : Nat) : Int) 4096 != 0) = decide (a / 16 % 2 = 1) := by decide +kernel

/-- The fields, by their places. -/
theorem hdrOf_at (s k q : Bool) (m : List UInt8) : hdrOf s k q m = if m.length + 4 < greHead s k q then none else
    some (if k then be ((m.drop (if s then 4 else 0)).take 4) else 0, if q then be ((m.drop ((if s then 4 else 0) + (if k then 4 else 0))).take 4) else 0, m.drop (greHead s k q - 4)) := by
  by_cases h : m.length + 4 < greHead s k q
  · rw [if_pos h]
    cases hh : hdrOf s k q m with
    | none => rfl
    | some p => obtain ⟨x, y, r⟩ := p; obtain ⟨-, h2, -⟩ := hdrOf_is hh; omega
  · rw [if_neg h]
    cases s <;> cases k <;> cases q <;> simp only [greHead, if_true, if_false, Bool.false_eq_true] at h <;>
      (try have g1 : ¬ m.length < 4 := by omega) <;> (try have g2 : ¬ m.length - 4 < 4 := by omega) <;> (try have g3 : ¬ m.length - (4 + 4) < 4 := by omega) <;>
      simp [hdrOf, fieldS, greHead, List.drop_drop, *]

theorem gDec_at {a b c d : UInt8} {r bs : List UInt8} (h : bs = a :: b :: c :: d :: r) :
    gDec bs = if ¬ (a.toNat % 16 = 0 ∧ a.toNat / 64 % 2 = 0 ∧ b.toNat = 0) then .no false 3 else if ¬ (c.toNat = 101 ∧ d.toNat = 88) then .no false 12 else
      if bs.length < greHead (decide (128 ≤ a.toNat)) (decide (a.toNat / 32 % 2 = 1)) (decide (a.toNat / 16 % 2 = 1)) then .no true 2 else
      if decide (128 ≤ a.toNat) = true ∧ sumS bs ≠ 0 then .no false 4 else
      gSize (decide (128 ≤ a.toNat)) (decide (a.toNat / 32 % 2 = 1)) (if decide (a.toNat / 32 % 2 = 1) then be ((bs.drop (4 + (if decide (128 ≤ a.toNat) then 4 else 0))).take 4) else 0)
        (decide (a.toNat / 16 % 2 = 1)) (if decide (a.toNat / 16 % 2 = 1) then be ((bs.drop (4 + (if decide (128 ≤ a.toNat) then 4 else 0) + (if decide (a.toNat / 32 % 2 = 1) then 4 else 0))).take 4) else 0)
        (bs.drop (greHead (decide (128 ≤ a.toNat)) (decide (a.toNat / 32 % 2 = 1)) (decide (a.toNat / 16 % 2 = 1)))) := by
  have ha := a.toNat_lt
  have hb := b.toNat_lt
  have hc := c.toNat_lt
  have hd := d.toNat_lt
  have e4 : (bs.take 4) = [a, b, c, d] := by rw [h]; rfl
  have ef : fl bs = ((a.toNat * 256 + b.toNat : Nat) : Int) := by unfold fl; rw [e4]; simp [be]; omega
  have el : ¬ bs.length < 4 := by rw [h]; simp
  have e6 : (bits .and .u32 (be (bs.take 4) : Int) 65535 != 25944) = !(decide (c.toNat = 101 ∧ d.toNat = 88)) := by
    rw [e4]
    have e : bits .and .u32 ((be [a, b, c, d] : Nat) : Int) 65535 = ((be [a, b, c, d] &&& 65535 : Nat) : Int) := u32_and_nat _ 65535 (by simp [be]; omega) (by omega)
    rw [e, nat_mask16]
    have : be [a, b, c, d] % 65536 = c.toNat * 256 + d.toNat := by simp [be]; omega
    rw [this]
    by_cases h1 : c.toNat = 101 ∧ d.toNat = 88
    · rw [h1.1, h1.2]; rfl
    · rw [decide_eq_false h1]; simp; omega
  unfold gDec
  rw [if_neg el, ef, bits_bad _ ha _ hb, e6]
  by_cases h1 : a.toNat % 16 = 0 ∧ a.toNat / 64 % 2 = 0 ∧ b.toNat = 0
  · have x1 : (!(decide (a.toNat % 16 = 0) && decide (a.toNat / 64 % 2 = 0) && decide (b.toNat = 0))) = false := by rw [h1.1, h1.2.1, h1.2.2]; rfl
    rw [x1]
    by_cases h2 : c.toNat = 101 ∧ d.toNat = 88
    · have x2 : (!decide (c.toNat = 101 ∧ d.toNat = 88)) = false := by rw [decide_eq_true h2]; rfl
      rw [x2]
      simp only [eq_true h1, eq_true h2, not_true_eq_false, if_false, Bool.false_eq_true]
      have ef' : fl bs = ((a.toNat * 256 : Nat) : Int) := by rw [ef, h1.2.2, Nat.add_zero]
      have es : fS bs = decide (128 ≤ a.toNat) := by unfold fS; rw [ef', bits_s _ ha]
      have ek : fK bs = decide (a.toNat / 32 % 2 = 1) := by unfold fK; rw [ef', bits_k _ ha]
      have eq : fQ bs = decide (a.toNat / 16 % 2 = 1) := by unfold fQ; rw [ef', bits_q _ ha]
      unfold gHdr
      rw [es, ek, eq, hdrOf_at]
      generalize decide (128 ≤ a.toNat) = s
      generalize decide (a.toNat / 32 % 2 = 1) = k
      generalize decide (a.toNat / 16 % 2 = 1) = q
      have hg := greHead_le s k q
      have hd : (bs.drop 4).length = bs.length - 4 := List.length_drop
      by_cases h3 : bs.length < greHead s k q
      · have h3' : (bs.drop 4).length + 4 < greHead s k q := by omega
        simp only [eq_true h3, eq_true h3', if_true]
      · have h3' : ¬ (bs.drop 4).length + 4 < greHead s k q := by omega
        simp only [eq_false h3, eq_false h3', if_false, List.drop_drop]
        rw [show 4 + (greHead s k q - 4) = greHead s k q by omega]
        simp only [Nat.add_assoc]
    · have x2 : (!decide (c.toNat = 101 ∧ d.toNat = 88)) = true := by rw [decide_eq_false h2]; rfl
      rw [x2]
      simp only [eq_true h1, eq_false h2, not_true_eq_false, not_false_eq_true, if_false, if_true, Bool.false_eq_true]
  · have x1 : (!(decide (a.toNat % 16 = 0) && decide (a.toNat / 64 % 2 = 0) && decide (b.toNat = 0))) = true := by
      rw [Bool.not_eq_true', Bool.eq_false_iff]
      intro h
      simp only [Bool.and_eq_true, decide_eq_true_eq] at h
      exact h1 ⟨h.1.1, h.1.2, h.2⟩
    rw [x1]
    simp only [eq_false h1, not_false_eq_true, if_true]

end Go.Proofs.YtghjcgpdmlfmjaaDoor

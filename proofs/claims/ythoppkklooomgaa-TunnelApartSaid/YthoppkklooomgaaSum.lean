/- The Internet checksum. -/
import Derived.Test.YthoppkklooomgaaOct
import Derived.Test.YthoppkklooomgaaBits
namespace Go.Proofs.Ythoppkklooomgaa
open Go.RowKit
set_option linter.unusedVariables false
/-- The sum of bytes by pairs, the first one of a pair (hi) the greater. -/
def wsum : Bool → List UInt8 → Nat
  | _, [] => 0
  | true, c :: r => c.toNat * 256 + wsum false r
  | false, c :: r => c.toNat + wsum true r
/-- Is the place behind so many bytes the first one of a pair? -/
def hiAt : Bool → Nat → Bool
  | b, 0 => b
  | b, k + 1 => hiAt (!b) k
theorem hiAt_succ (b : Bool) (k : Nat) : hiAt b (k + 1) = !hiAt b k := by
  induction k generalizing b with
  | zero => rfl
  | succ k ih => exact ih (!b)
theorem wsum_snoc (l : List UInt8) (c : UInt8) : ∀ b, wsum b (l ++ [c]) = wsum b l + (if hiAt b l.length = true then c.toNat * 256 else c.toNat) := by
  induction l with
  | nil => intro b; cases b <;> simp [wsum, hiAt]
  | cons x l ih => intro b; cases b <;> simp only [List.cons_append, wsum, List.length_cons, hiAt, ih] <;> simp <;> omega
theorem wsum_le (l : List UInt8) : ∀ b, wsum b l ≤ l.length * 65280 := by
  induction l with
  | nil => intro b; cases b <;> simp [wsum]
  | cons x l ih =>
    intro b
    have h1 := ih (!b)
    have h2 := x.toNat_lt
    cases b <;> simp only [wsum, List.length_cons, Bool.not_true, Bool.not_false] at * <;> omega

/-- A sum in sixteen bits. -/
def fold (n : Nat) : Nat := if h : n < 65536 then n else fold (n % 65536 + n / 65536)
termination_by n
decreasing_by omega
theorem fold_lt (n : Nat) : fold n < 65536 := by
  induction n using Nat.strongRecOn with
  | ind n ih =>
    unfold fold
    split
    · assumption
    · exact ih _ (by omega)
theorem fold_mod (n : Nat) : fold n % 65535 = n % 65535 := by
  induction n using Nat.strongRecOn with
  | ind n ih =>
    unfold fold
    split
    · rfl
    · rw [ih _ (by omega)]; omega
theorem fold_zero (n : Nat) : fold n = 0 ↔ n = 0 := by
  induction n using Nat.strongRecOn with
  | ind n ih =>
    unfold fold
    split
    · rfl
    · rw [ih _ (by omega)]; omega
/-- The sum of bytes that have theirs with them. -/
theorem fold_top (n : Nat) : fold n = 65535 ↔ 0 < n ∧ n % 65535 = 0 := by
  have h1 := fold_lt n
  have h2 := fold_mod n
  have h3 := fold_zero n
  omega

theorem fold_step (m : Nat) (hm : m < 4294967296) : IntKind.u64.wrap (bits .and .u64 (m : Int) 65535 + (m : Int) / 65536) = ((m % 65536 + m / 65536 : Nat) : Int) := by
  have e1 : bits .and .u64 (m : Int) 65535 = ((m &&& 65535 : Nat) : Int) := u64_and_nat m 65535 (by omega) (by omega)
  rw [e1, nat_mask16, IntKind.wrap_u64]
  omega
theorem fold_next {m : Nat} (h : ¬ m < 65536) : fold m = fold (m % 65536 + m / 65536) := by
  rw [fold, dif_neg h]
theorem fold_small {m : Nat} (h : m < 65536) : fold m = m := by
  rw [fold, dif_pos h]

theorem folded_any (n : Nat) (hn : n < 4294967296) (w : World) : Calls Try.prog 65 #[.int .u64 n] w fun e w' => e = .returned (.int .u16 (fold n)) ∧ w = w' := by
  go_enter Try.func65, Try.ntmps65
  go_wp2
  go_loop [0] (fun t => ∃ m : Nat, m < 4294967296 ∧ fold m = fold n ∧ t = .int .u64 m) (fun t => (intOf t).toNat)
  case atStart => exact ⟨n, hn, rfl, rfl⟩
  case round =>
    obtain ⟨m, hm, he, rfl⟩ := hrel
    have HE := Lib.hid he
    clear he
    by_cases hlt : m < 65536
    · have e0 : (m : Int) / 65536 = 0 := by omega
      go_wp2
      go_ret
      exact ⟨by rw [← HE.out, fold_small hlt]; rfl, rfl⟩
    · go_wp2
      go_round
      case rel => exact ⟨m % 65536 + m / 65536, by omega, by rw [← HE.out, fold_next hlt], by rw [fold_step m hm]⟩
      case measure => rw [fold_step m hm]; simp only [intOf]; omega

theorem u64_a (W c : Nat) (hW : W ≤ 1400000000) (hc : c < 256) : IntKind.u64.wrap ((W : Int) + IntKind.u64.wrap (c : Int)) = ((W + c : Nat) : Int) := by
  simp only [IntKind.wrap_u64]; omega
theorem u64_b (W c : Nat) (hW : W ≤ 1400000000) (hc : c < 256) : IntKind.u64.wrap ((W : Int) + IntKind.u64.wrap (IntKind.u64.wrap (c : Int) * 256)) = ((W + c * 256 : Nat) : Int) := by
  simp only [IntKind.wrap_u64]; omega

/-- The sum of one part. -/
def sumS (bs : List UInt8) : Nat := 65535 - fold (wsum true bs)

set_option maxRecDepth 100000 in
theorem sum_any {w : World} {k : Nat} {ao : Option Addr} {n cap : Nat} {bs : List UInt8} (hk : w.cell? ⟨k, 0, none⟩ = some (.slice ao n cap)) (hb : Bs w ao n cap bs) (hn : n ≤ 20000) :
    Calls Try.prog 55 #[.slice (some ⟨k, 0, none⟩) 1 1] w fun e w' => e = .returned (.int .u16 (sumS bs)) ∧ w = w' := by
  have hN := hb.1
  have HN := Lib.hid hN
  have HB := Lib.hid hb
  clear hb hN
  go_enter Try.func55, Try.ntmps55
  go_wp2
  refine wp_loop_rounds 2 ?_
  rw [rounds_succ]
  go_wp2
  go_loop [3, 4, 17] (fun t h i => ∃ j : Nat, j ≤ n ∧ i = .int .i64 j ∧ t = .int .u64 (wsum true (bs.take j)) ∧ h = .bool (hiAt true j)) (fun _ _ i => n - (intOf i).toNat)
  case atStart => exact ⟨0, Nat.zero_le _, rfl, rfl, rfl⟩
  case round =>
    obtain ⟨j, hj, rfl, rfl, rfl⟩ := hrel
    by_cases hlt : j < n
    · obtain ⟨a, rfl⟩ := HB.out.some (by have := HN.out; omega)
      obtain ⟨c, hc⟩ := at_lt (bs := bs) (k := j) (by have := HN.out; omega)
      have hcell := HB.out.at hc
      have hl : (bs.take j).length = j := by rw [List.length_take]; have := HN.out; omega
      have HS := Lib.hid (wsum_snoc (bs.take j) c true)
      have HT := Lib.hid (take_succ_at hc)
      have HW := Lib.hid (wsum_le (bs.take j) true)
      have HC := Lib.hid c.toNat_lt
      have HH := Lib.hid (hiAt_succ true j)
      have HL := Lib.hid hl
      clear hc hl
      obtain ⟨hi, hhi⟩ : ∃ hi, hi = hiAt true j := ⟨_, rfl⟩
      rw [← hhi] at HH ⊢
      have HI := Lib.hid hhi
      clear hhi
      cases hi
      · go_wp2
        go_round
        case rel =>
          refine ⟨j + 1, by omega, by go_num, ?_, by rw [HH.out]; rfl⟩
          have e1 := HS.out
          have e2 := HW.out
          have e3 := HC.out
          rw [HL.out, ← HI.out] at e1
          rw [HL.out] at e2
          rw [HT.out, e1, u64_a _ _ (by omega) e3]
          simp
        case measure => simp [intOf]; omega
      · go_wp2
        go_round
        case rel =>
          refine ⟨j + 1, by omega, by go_num, ?_, by rw [HH.out]; rfl⟩
          have e1 := HS.out
          have e2 := HW.out
          have e3 := HC.out
          rw [HL.out, ← HI.out] at e1
          rw [HL.out] at e2
          rw [HT.out, e1, u64_b _ _ (by omega) e3]
          simp
        case measure => simp [intOf]; omega
    · have e1 : bs.take j = bs := List.take_of_length_le (by have := HN.out; omega)
      have e2 : wsum true bs ≤ 1400000000 := by have := wsum_le bs true; have := HN.out; omega
      rw [e1]
      have E2 := Lib.hid e2
      clear e1 e2
      go_wp2
      rw [rounds_succ]
      go_wp2_with (go_at_call 65; refine (folded_any _ (by have := E2.out; omega) _).mono ?_; rintro e w1 ⟨rfl, rfl⟩)
      go_ret
      exact ⟨congrArg (fun x => Ending.returned (.int .u16 x)) (u16_not _ (fold_lt _)), rfl⟩

/-- sum.Valid of one part. -/
theorem valid_any {w : World} {k : Nat} {ao : Option Addr} {n cap : Nat} {bs : List UInt8} (hk : w.cell? ⟨k, 0, none⟩ = some (.slice ao n cap)) (hb : Bs w ao n cap bs) (hn : n ≤ 20000) :
    Calls Try.prog 72 #[.slice (some ⟨k, 0, none⟩) 1 1] w fun e w' => e = .returned (.bool ((sumS bs : Int) == 0)) ∧ w = w' := by
  go_enter Try.func72, Try.ntmps72
  go_wp2_with (go_at_call 55; refine (sum_any hk hb hn).mono ?_; rintro e w1 ⟨rfl, rfl⟩)
  go_ret
  exact ⟨rfl, rfl⟩

end Go.Proofs.Ythoppkklooomgaa
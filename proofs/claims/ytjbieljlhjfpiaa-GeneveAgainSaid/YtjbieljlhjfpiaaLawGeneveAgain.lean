/- GeneveAgain: the walk. -/
import Derived.Test.YtjbieljlhjfpiaaLawGeneveBack
namespace Go.Proofs.Ytjbieljlhjfpiaa
open Go.RowKit
set_option linter.unusedVariables false

set_option maxHeartbeats 1600000 in
set_option maxRecDepth 100000 in
theorem GeneveAgain_walk {w : World} {ao : Option Addr} {n cap : Nat} {bs : List UInt8} (hb : Bs w ao n cap bs) : Calls Try.prog 4 #[.slice ao n cap] w (ShownOk w) := by
  have hle := hb.2.le
  have hcc := hb.2.capLe
  have HB := Lib.hid (hb.head (min n 10000) (by omega))
  clear hb
  go_enter Try.func4, Try.ntmps4
  go_wp2_with (first
    | (go_at_call 13; refine (shown12_any w).mono ?_; rintro e w1 ⟨rfl, f1⟩; have F1 := Lib.hid f1; clear f1)
    | (go_at_call 14; refine (few12_any _ _ _ hle hcc _).mono ?_; rintro e w2 ⟨rfl, rfl⟩))
  have hm1 : min n 10000 ≤ 10000 := by omega
  have B1 := Lib.hid (HB.out.no F1.out)
  have hN : (bs.take (min n 10000)).length = min n 10000 := HB.out.1.symm
  have HN := Lib.hid hN
  generalize hmm : min n 10000 = m at *
  have HMM := Lib.hid hmm
  generalize bs.take m = bs' at *
  clear hN hmm
  refine (gnDecap_any B1.out (by omega)).mono ?_
  cases hd : gnDec bs' with
  | no inner code =>
    clear hd
    rintro e w2 ⟨b, rfl, -, f2⟩
    have F2 := Lib.hid (F1.out.then_no f2)
    clear f2
    go_wp2_with fail
    go_ret
    exact ⟨rfl, F2.out⟩
  | ok id os fs =>
    obtain ⟨i1, i2, i3, i4, i5, i6, i7⟩ := gnDec_is hd
    have HD := Lib.hid hd
    clear hd
    rintro e w2 ⟨lo, ln, lc, ad, g, gc, rfl, ro, x2, f2, h2⟩
    have hln : os.length = ln := ro.len
    have HLN := Lib.hid hln
    have F2 := Lib.hid (F1.out.then_no f2)
    have R2 := Lib.hid ro.rs
    have X2 := Lib.hid x2
    have B2 := Lib.hid (B1.out.no f2)
    have hsz : m = 8 + osum os + fs.length := by rw [← HN.out, i6]
    have HR := Lib.hid i2
    have HC := Lib.hid i3
    have h63 : ln ≤ 1000 := by omega
    have hi0 : (0 : Int) ≤ (id : Int) := by omega
    have hi1 : (id : Int) < 16777216 := by omega
    clear f2 ro x2 h2 hln i2 i3 i6 i7 F1 B1
    obtain ⟨z, hz⟩ : ∃ z : Int, z = (id : Int) := ⟨_, rfl⟩
    rw [← hz] at hi0 hi1 ⊢
    have HZ := Lib.hid hz
    clear hz
    generalize hfl : fs.length = fl at *
    have HFL := Lib.hid hfl
    clear hfl
    have HSZ := Lib.hid hsz
    clear hsz
    go_wp2_with fail
    refine (gnEncap_ok z hi0 hi1 R2.out h63 HR.out X2.out.bs i4 i5 (m := m) HSZ.out).mono ?_
    rintro e w3 ⟨g3, c3, rfl, x3, f3, h3⟩
    have F3 := Lib.hid (F2.out.then_no f3)
    have R3 := Lib.hid (R2.out.no f3)
    have X3 := Lib.hid (X2.out.no f3)
    have Y3 := Lib.hid x3
    clear f3 x3 h3 F2 R2 X2 B2
    go_wp2_with fail
    refine (gnDecap_any Y3.out.bs (by omega)).mono ?_
    have hd := gnDec_out id i1 os HR.out HC.out fs (by rw [HFL.out]; exact i4) (by rw [HFL.out]; exact i5)
    rw [← HZ.out] at hd
    rw [hd]
    clear hd
    rintro e w4 ⟨lo4, ln4, lc4, ad4, g4, gc4, rfl, ro4, x4, f4, h4⟩
    have hl4 : ln4 = ln := by rw [← ro4.len, HLN.out]
    subst hl4
    rw [HFL.out] at x4 ⊢
    rw [← HZ.out]
    have F4 := Lib.hid (F3.out.then_no f4)
    have R4 := Lib.hid (R3.out.no f4)
    have X4 := Lib.hid (X3.out.no f4)
    have S4 := Lib.hid ro4.rs
    have Y4 := Lib.hid x4
    clear f4 ro4 x4 h4 F3 R3 X3 Y3
    go_wp2_with (first
      | (go_at_call 17; refine (right_any R4.out h63).mono ?_; rw [HR.out]; rintro e w5 (⟨-, rfl, f5⟩ | ⟨h0, -⟩); rotate_left; (exact absurd rfl h0); have F5 := Lib.hid (F4.out.then_no f5); have R5 := Lib.hid (R4.out.no f5); have X5 := Lib.hid (X4.out.no f5); have S5 := Lib.hid (S4.out.no f5); have Y5 := Lib.hid (Y4.out.no f5); clear f5)
      | (go_at_call 19; refine (same12_true R5.out S5.out).mono ?_; rintro e w6 ⟨rfl, f6⟩; have F6 := Lib.hid (F5.out.then_no f6); have e1 := run_bytes_string (P := Try.prog) w6 24 9 5 (X5.out.bs.no f6) Try.underlying24 Try.underlying5 Try.underlying9; have e2 := run_bytes_string (P := Try.prog) w6 24 9 5 (Y5.out.bs.no f6) Try.underlying24 Try.underlying5 Try.underlying9; clear f6)
      | (go_at_call 14; refine (few12_any _ _ _ hle hcc _).mono ?_; rw [HMM.out]; rintro e w7 ⟨rfl, rfl⟩))
    go_ret
    exact ⟨rfl, F6.out⟩

end Go.Proofs.Ytjbieljlhjfpiaa

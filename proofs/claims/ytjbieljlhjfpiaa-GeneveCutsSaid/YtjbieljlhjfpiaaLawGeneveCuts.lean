/- GeneveCuts: the walk. -/
import Derived.Test.YtjbieljlhjfpiaaLawGeneveBack
import Derived.Test.YtjbieljlhjfpiaaBits
namespace Go.Proofs.Ytjbieljlhjfpiaa
open Go.RowKit
set_option linter.unusedVariables false

set_option maxHeartbeats 1600000 in
set_option maxRecDepth 100000 in
theorem GeneveCuts_walk {w : World} {oo : Option Addr} {on oc : Nat} {os : List Opt} {ao : Option Addr} {n cap : Nat} {fs : List UInt8} (id at_ : Int) (hi0 : 0 ≤ id) (hi1 : id < 4294967296) (ha0 : -9223372036854775808 ≤ at_) (ha1 : at_ ≤ 9223372036854775807) (ho : Rs w oo on oc os) (hb : Bs w ao n cap fs) :
    Calls Try.prog 5 #[.int .u32 id, .slice oo on oc, .slice ao n cap, .int .i64 at_] w (ShownOk w) := by
  have HI := Lib.hid (Int.toNat_of_nonneg hi0)
  have hle := hb.2.le
  have hcc := hb.2.capLe
  have hle2 := ho.le
  have hcc2 := ho.capLe
  have HB := Lib.hid (hb.head (min n 10000) (by omega))
  have HO := Lib.hid (ho.take (min on 100) (by omega))
  clear hb ho
  go_enter Try.func5, Try.ntmps5
  go_wp2_with (first
    | (go_at_call 13; refine (shown12_any w).mono ?_; rintro e w1 ⟨rfl, f1⟩; have F1 := Lib.hid f1; clear f1)
    | (go_at_call 14; refine (few12_any _ _ _ hle hcc _).mono ?_; rintro e w2 ⟨rfl, rfl⟩)
    | (go_at_call 15; refine (some12_any _ _ _ hle2 hcc2 _).mono ?_; rintro e w2 ⟨rfl, rfl⟩))
  have hm1 : min n 10000 ≤ 10000 := by omega
  have hm2 : min n 10000 ≤ cap := by omega
  have hm3 : min on 100 ≤ 100 := by omega
  generalize min n 10000 = m at *
  generalize min on 100 = k at *
  generalize fs.take m = fs' at *
  generalize os.take k = os' at *
  clear hle hle2
  have B1 := Lib.hid (HB.out.no F1.out)
  have O1 := Lib.hid (HO.out.no F1.out)
  have hN : fs'.length = m := HB.out.1.symm
  have HN := Lib.hid hN
  clear hN HB HO
  by_cases hid : id < 16777216
  · by_cases hr : rightN os' = 0
    · by_cases hs : 14 ≤ m ∧ m ≤ 9000
      · obtain ⟨hs1, hs2⟩ := hs
        have HR := Lib.hid hr
        have hsum := (right_zero hr).2
        clear hr
        obtain ⟨L, hL⟩ : ∃ L, L = 8 + osum os' + m := ⟨_, rfl⟩
        have hLb : L ≤ 9260 := by omega
        have hLm : m + 8 ≤ L := by omega
        have HL := Lib.hid hL
        clear hL
        obtain ⟨a16, h16⟩ : ∃ a16 : Nat, bits .and .i64 at_ 65535 = (a16 : Int) := ⟨(at_ % 65536).toNat, by rw [i64_mask16]; omega⟩
        obtain ⟨j, hj⟩ : ∃ j : Nat, (a16 : Int) % ((L : Int) + 1) = (j : Int) ∧ j ≤ L := ⟨a16 % (L + 1), by rw [Int.natCast_emod]; rfl, by have := Nat.mod_lt a16 (show 0 < L + 1 by omega); omega⟩
        obtain ⟨hj, hjL⟩ := hj
        refine (gnEncap_ok id hi0 hid O1.out (by omega) HR.out B1.out hs1 hs2 (m := L) HL.out).mono ?_
        rintro e w2 ⟨g, c2, rfl, x2, f2, h2⟩
        have F2 := Lib.hid (F1.out.then_no f2)
        have hxc := x2.2.le
        have hxc2 := x2.2.capLe
        have hcl := O1.out.cls
        have X2 := Lib.hid (x2.bs.head j hjL)
        have HCL := Lib.hid hcl
        clear f2 x2 h2 F1 O1 B1 hcl
        go_wp2_with fail
        refine (gnDecap_any X2.out (by omega)).mono ?_
        have hd := gnDec_take id.toNat (by omega) os' HR.out HCL.out fs' j (by rw [HN.out, ← HL.out]; exact hjL)
        rw [HI.out] at hd
        rw [hd]
        clear hd
        by_cases h1 : j < 8 + osum os'
        · rw [if_pos h1]
          have hjm : (j : Int) < (L : Int) - (m : Int) + 14 := by have := HL.out; omega
          rintro e w3 ⟨b, rfl, he, f3⟩
          have HE := Lib.hid he
          have F3 := Lib.hid (F2.out.then_no f3)
          clear f3 he
          go_wp2_with (go_at_call 20; refine (errIs_any HE.out 2).mono ?_; rintro e w6 ⟨rfl, rfl⟩)
          go_ret
          exact ⟨rfl, F3.out⟩
        · rw [if_neg h1]
          obtain ⟨q, hq⟩ : ∃ q, j = 8 + osum os' + q := ⟨j - (8 + osum os'), by omega⟩
          have hqm : q ≤ m := by have := HL.out; omega
          have hfl : (fs'.take (j - (8 + osum os'))).length = q := by rw [List.length_take, HN.out]; omega
          unfold gnFrame
          rw [hfl]
          by_cases h14 : q < 14
          · rw [if_pos h14]
            have hjm : (j : Int) < (L : Int) - (m : Int) + 14 := by have := HL.out; omega
            rintro e w3 ⟨b, rfl, he, f3⟩
            have HE := Lib.hid he
            have F3 := Lib.hid (F2.out.then_no f3)
            clear f3 he
            go_wp2_with (go_at_call 20; refine (errIs_any HE.out 2).mono ?_; rintro e w6 ⟨rfl, rfl⟩)
            go_ret
            exact ⟨rfl, F3.out⟩
          · rw [if_neg h14, if_neg (by omega)]
            have hjm : ¬ (j : Int) < (L : Int) - (m : Int) + 14 := by have := HL.out; omega
            have hjq : (j : Int) - ((L : Int) - (m : Int) + 14) + 14 = (q : Int) := by have := HL.out; omega
            rintro e w3 ⟨lo, ln, lc, ad, g4, gc4, rfl, ro, x4, f3, h4⟩
            rw [hfl, HI.out]
            have F3 := Lib.hid (F2.out.then_no f3)
            clear f3 ro x4 h4 hfl hq h1
            go_wp2_with fail
            all_goals go_ret
            all_goals exact ⟨rfl, F3.out⟩
      · have hcode : ∃ code : Int, m < 14 ∧ code = 2 ∨ 9000 < m ∧ code = 7 := by
          by_cases h : m < 14
          · exact ⟨2, .inl ⟨h, rfl⟩⟩
          · exact ⟨7, .inr ⟨by omega, rfl⟩⟩
        obtain ⟨code, hcd⟩ := hcode
        refine (gnEncap_size id hid O1.out (by omega) hr code hcd).mono ?_
        rintro e w2 ⟨b, rfl, -, f2⟩
        have F2 := Lib.hid (F1.out.then_no f2)
        clear f2 hcd hr
        go_wp2_with fail
        go_ret
        exact ⟨rfl, F2.out⟩
    · refine (gnEncap_right id hid O1.out (by omega) rfl hr).mono ?_
      rintro e w2 ⟨b, rfl, -, f2⟩
      have F2 := Lib.hid (F1.out.then_no f2)
      clear f2 hr
      go_wp2_with fail
      go_ret
      exact ⟨rfl, F2.out⟩
  · refine (gnEncap_id id (by omega) hi1).mono ?_
    rintro e w2 ⟨b, rfl, -, f2⟩
    have F2 := Lib.hid (F1.out.then_no f2)
    clear f2
    go_wp2_with fail
    go_ret
    exact ⟨rfl, F2.out⟩

end Go.Proofs.Ytjbieljlhjfpiaa

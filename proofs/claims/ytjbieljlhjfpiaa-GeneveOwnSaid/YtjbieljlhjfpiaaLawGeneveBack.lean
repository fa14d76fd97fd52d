/- GeneveBack: the walk. -/
import Derived.Test.YtjbieljlhjfpiaaSh12b
namespace Go.Proofs.Ytjbieljlhjfpiaa
open Go.RowKit
set_option linter.unusedVariables false

/-- The arguments, cut. -/
theorem Bs.head {w : World} {ao : Option Addr} {n cap : Nat} {bs : List UInt8} (h : Bs w ao n cap bs) (m : Nat) (hm : m ≤ n) : Bs w ao m cap (bs.take m) := by
  have := h.cut 0 m cap (Nat.zero_le _) (Nat.le_trans hm h.2.le) (Nat.le_refl _) hm (a' := ao) (by split <;> simp [Addr.add])
  simpa using this

set_option maxHeartbeats 1600000 in
set_option maxRecDepth 100000 in
theorem GeneveBack_walk {w : World} {oo : Option Addr} {on oc : Nat} {os : List Opt} {ao : Option Addr} {n cap : Nat} {fs : List UInt8} (id : Int) (hi0 : 0 ≤ id) (hi1 : id < 4294967296) (ho : Rs w oo on oc os) (hb : Bs w ao n cap fs) :
    Calls Try.prog 3 #[.int .u32 id, .slice oo on oc, .slice ao n cap] w (ShownOk w) := by
  have HI := Lib.hid (Int.toNat_of_nonneg hi0)
  have hle := hb.2.le
  have hcc := hb.2.capLe
  have hle2 := ho.le
  have hcc2 := ho.capLe
  have HB := Lib.hid (hb.head (min n 10000) (by omega))
  have HO := Lib.hid (ho.take (min on 100) (by omega))
  clear hb ho
  go_enter Try.func3, Try.ntmps3
  go_wp2_with (first
    | (go_at_call 13; refine (shown12_any w).mono ?_; rintro e w1 ⟨rfl, f1⟩; have F1 := Lib.hid f1; clear f1)
    | (go_at_call 14; refine (few12_any _ _ _ hle hcc _).mono ?_; rintro e w2 ⟨rfl, rfl⟩)
    | (go_at_call 15; refine (some12_any _ _ _ hle2 hcc2 _).mono ?_; rintro e w2 ⟨rfl, rfl⟩))
  have hm1 : min n 10000 ≤ 10000 := by omega
  have hm2 : min n 10000 ≤ cap := by omega
  have hm3 : min on 100 ≤ 100 := by omega
  have hm4 : min on 100 ≤ oc := by omega
  generalize min n 10000 = m at *
  generalize min on 100 = k at *
  generalize fs.take m = fs' at *
  generalize os.take k = os' at *
  clear hle hle2
  have B1 := Lib.hid (HB.out.no F1.out)
  have O1 := Lib.hid (HO.out.no F1.out)
  have hN : fs'.length = m := HB.out.1.symm
  have hK : os'.length = k := HO.out.len.symm
  have HN := Lib.hid hN
  have HK := Lib.hid hK
  clear hN hK HB HO
  by_cases hid : id < 16777216
  · by_cases hr : rightN os' = 0
    · by_cases hs : 14 ≤ m ∧ m ≤ 9000
      · obtain ⟨hs1, hs2⟩ := hs
        have HR := Lib.hid hr
        have hsum := (right_zero hr).2
        clear hr
        refine (gnEncap_ok id hi0 hid O1.out (by omega) HR.out B1.out hs1 hs2 (m := 8 + osum os' + m) rfl).mono ?_
        rintro e w2 ⟨g, c2, rfl, x2, f2, h2⟩
        have F2 := Lib.hid (F1.out.then_no f2)
        have O2 := Lib.hid (O1.out.no f2)
        have B2 := Lib.hid (B1.out.no f2)
        have X2 := Lib.hid x2
        clear f2 x2 h2 F1 O1 B1
        go_wp2_with (go_at_call 17; refine (right_any O2.out (by omega)).mono ?_; rw [HR.out]; rintro e w3 (⟨-, rfl, f3⟩ | ⟨h0, -⟩); rotate_left; (exact absurd rfl h0); have F3 := Lib.hid (F2.out.then_no f3); have O3 := Lib.hid (O2.out.no f3); have B3 := Lib.hid (B2.out.no f3); have X3 := Lib.hid (X2.out.no f3); clear f3)
        clear F2 O2 B2 X2
        refine (gnDecap_any X3.out.bs (by omega)).mono ?_
        have hd := gnDec_out id.toNat (by omega) os' HR.out O3.out.cls fs' (by rw [HN.out]; exact hs1) (by rw [HN.out]; exact hs2)
        rw [HI.out] at hd
        rw [hd]
        clear hd
        rintro e w4 ⟨lo, ln, lc, ad, g4, gc4, rfl, ro, o4, f4, h4⟩
        have hln : ln = k := by rw [← ro.len, HK.out]
        subst hln
        have hfl : fs'.length = m := HN.out
        rw [hfl] at o4 ⊢
        rw [HI.out]
        have F4 := Lib.hid (F3.out.then_no f4)
        have O4 := Lib.hid (O3.out.no f4)
        have B4 := Lib.hid (B3.out.no f4)
        have RO4 := Lib.hid ro.rs
        have P4 := Lib.hid o4
        clear f4 ro o4 h4 F3 O3 B3 X3 hfl
        go_wp2_with fail
        go_loopw [14, 15] (fun t14 t15 wr => ∃ j : Nat, t15 = .int .i64 j ∧ j ≤ ln ∧ t14 = .int .i64 ((8 + osum (os'.take j) + m : Nat) : Int) ∧ wr = w4) (fun _ t15 _ => ln - (intOf t15).toNat)
        case atStart => exact ⟨0, rfl, by omega, by simp [osum], rfl⟩
        case round =>
          obtain ⟨j, rfl, hj, rfl, rfl⟩ := hrel
          have hs3 := osum_take os' j
          generalize hS : osum (os'.take j) = S at *
          have HS := Lib.hid hS
          clear hS
          by_cases hlt : j < ln
          · obtain ⟨a, o, rfl, ho, ⟨bo, bc, c1, c2', c3, c4⟩, -⟩ := O4.out.get j hlt
            have hbad := (right_zero HR.out).1 o (List.mem_of_getElem? ho)
            simp [badO] at hbad
            have HO := Lib.hid ho
            clear c4 ho c1 c2'
            go_wp2_with fail
            go_roundw
            case rel => exact ⟨j + 1, by go_num, by omega, by rw [take_snoc HO.out, osum_snoc, HS.out]; congr 1; omega, by first | rfl | trivial⟩
            case measure => simp [intOf]; omega
          · have hall : os'.take j = os' := List.take_of_length_le (by rw [HK.out]; omega)
            have hSS : S = osum os' := by rw [← HS.out, hall]
            subst hSS
            clear hall hs3 HS
            have hsz : ((8 + osum os' + m : Nat) : Int) = 8 + (osum os' : Int) + (m : Int) := by omega
            go_wp2_with (go_at_call 19; refine (same12_true RO4.out O4.out).mono ?_; rintro e w5 ⟨rfl, f5⟩; have F5 := Lib.hid (F4.out.then_no f5); have e1 := run_bytes_string (P := Try.prog) w5 24 9 5 (P4.out.bs.no f5) Try.underlying24 Try.underlying5 Try.underlying9; have e2 := run_bytes_string (P := Try.prog) w5 24 9 5 (B4.out.no f5) Try.underlying24 Try.underlying5 Try.underlying9; clear f5)
            go_ret
            exact ⟨rfl, F5.out⟩
      · have hcode : ∃ code : Int, m < 14 ∧ code = 2 ∨ 9000 < m ∧ code = 7 := by
          by_cases h : m < 14
          · exact ⟨2, .inl ⟨h, rfl⟩⟩
          · exact ⟨7, .inr ⟨by omega, rfl⟩⟩
        obtain ⟨code, hcd⟩ := hcode
        have HCD := Lib.hid hcd
        have HR := Lib.hid hr
        clear hcd hr
        refine (gnEncap_size id hid O1.out (by omega) HR.out code HCD.out).mono ?_
        rintro e w2 ⟨b, rfl, -, f2⟩
        have F2 := Lib.hid (F1.out.then_no f2)
        have O2 := Lib.hid (O1.out.no f2)
        clear f2
        by_cases h : m < 14
        · go_wp2_with (go_at_call 17; refine (right_any O2.out (by omega)).mono ?_; rw [HR.out]; rintro e w3 (⟨-, rfl, f3⟩ | ⟨h0, -⟩); rotate_left; (exact absurd rfl h0); have F3 := Lib.hid (F2.out.then_no f3); clear f3)
          go_ret
          exact ⟨rfl, F3.out⟩
        · have h' : 9000 < m := by omega
          go_wp2_with (go_at_call 17; refine (right_any O2.out (by omega)).mono ?_; rw [HR.out]; rintro e w3 (⟨-, rfl, f3⟩ | ⟨h0, -⟩); rotate_left; (exact absurd rfl h0); have F3 := Lib.hid (F2.out.then_no f3); clear f3)
          go_ret
          exact ⟨rfl, F3.out⟩
    · obtain ⟨c, hc⟩ : ∃ c, rightN os' = c := ⟨_, rfl⟩
      have HR := Lib.hid hc
      have HZ : Hid (c ≠ 0) := Lib.hid (by rw [← HR.out]; exact hr)
      clear hc hr
      refine (gnEncap_right id hid O1.out (by omega) HR.out HZ.out).mono ?_
      rintro e w2 ⟨b, rfl, -, f2⟩
      have F2 := Lib.hid (F1.out.then_no f2)
      have O2 := Lib.hid (O1.out.no f2)
      clear f2
      go_wp2_with (go_at_call 17; refine (right_any O2.out (by omega)).mono ?_; rw [HR.out]; rintro e w3 (⟨h0, -⟩ | ⟨-, b3, rfl, -, f3⟩); (exact absurd h0 HZ.out); have F3 := Lib.hid (F2.out.then_no f3); clear f3)
      go_ret
      exact ⟨rfl, F3.out⟩
  · refine (gnEncap_id id (by omega) hi1).mono ?_
    rintro e w2 ⟨b, rfl, -, f2⟩
    have F2 := Lib.hid (F1.out.then_no f2)
    clear f2
    go_wp2_with fail
    go_ret
    exact ⟨rfl, F2.out⟩

end Go.Proofs.Ytjbieljlhjfpiaa

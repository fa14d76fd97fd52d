/- BridgeForgets. -/
import Derived.Test.YticebdoiahadoaaBl8
import Derived.Test.YticebdoiahadoaaFd24l
import Derived.Test.YticebdoiahadoaaEqE
import Derived.Deep.DeepCutAuto
import Derived.Deep.CutBlock
namespace Go.Proofs.Yticebdoiahadoaa
open Go.RowKit
set_option linter.unusedVariables false
set_option linter.unusedSimpArgs false

theorem oi_cell {w : World} {ao : Option Addr} {n c : Nat} {zs : List Int} (h : OI w ao n c zs) {j : Nat} {z : Int} (hz : zs[j]? = some z) : ∃ g, ao = some ⟨g, 0, none⟩ ∧ w.cell? ⟨g, j, none⟩ = some (.int .i64 z) := by
  cases ao with
  | none =>
    have h1 := h.2.nocap rfl
    have h2 := h.2.le
    have h3 := h.1
    have := (List.getElem?_eq_some_iff.1 hz).1
    omega
  | some a =>
    obtain ⟨h1, -⟩ := h.2.row a rfl
    have h2 := h.sl.2.cell a rfl j (.int .i64 z) (by rw [List.getElem?_map, hz]; rfl)
    obtain ⟨b, o, sp⟩ := a
    cases h1
    exact ⟨b, rfl, by rw [Addr.add_lit] at h2; simpa using h2⟩
set_option maxRecDepth 100000 in
set_option maxHeartbeats 8000000 in
theorem BridgeForgets_walk {w : World} (room : Int) {life : Int} (hl0 : 0 ≤ life) (hl1 : life < 18446744073709551616) {ao : Option Addr} {n cap : Nat} {xs : List St16} (hs : Rs16 w ao n cap xs) (port to_ : Int) (hpo : okI port) (hto : okI to_) :
    Calls Try.prog 8 #[.int .i64 room, .int .u64 life, .slice ao n cap, .int .i64 port, .int .i64 to_] w fun e w' => e = .returned (.bool true) ∧ Fr No w w' := by
  have HS := Lib.hid hs
  have HN := Lib.hid hs.1
  have HPO := Lib.hid hpo
  have HTO := Lib.hid hto
  have hle := hs.2.1
  have hcap := hs.2.2.1
  clear hs hpo hto
  go_enter Try.func8, Try.ntmps8
  go_wp2_with fail
  refine (l16shown_any w).mono ?_
  rintro e w1 ⟨rfl, f1⟩
  go_wp2_with fail
  obtain ⟨rm, hrm⟩ : ∃ rm, min (max room 1) 64 = rm := ⟨_, rfl⟩
  refine (bgNew_z w1 room life hl0 hl1 hrm).mono ?_
  rintro e w2 ⟨bb, rfl, h2, f2⟩
  have H := Lib.hid (h2.less (Z' := fun k => k < w.heap.size) (fun k hk => Nat.lt_of_lt_of_le hk f1.size))
  have FF := Lib.hid (f1.trans f2)
  clear h2 f1 f2 hrm
  go_upto_block 0 with fail
  go_cut [13] (fun t13 wc => ∃ (nw : Int) (X : AB), t13 = .int .u64 nw ∧ 0 ≤ nw ∧ nw ≤ 25500 ∧ BrZ (fun k => k < w.heap.size) wc bb rm life X ∧ Stl X ∧ Fr No w wc)
  case first =>
    go_wp2_with fail
    go_loopw [13, 14] (fun t13 t14 wr => ∃ (k : Nat) (nw : Int) (X : AB), k ≤ n ∧ k ≤ 100 ∧ t14 = .int .i64 k ∧ t13 = .int .u64 nw ∧ 0 ≤ nw ∧ nw ≤ 255 * (k : Int) ∧ BrZ (fun k => k < w.heap.size) wr bb rm life X ∧ Stl X ∧ Fr No w wr) (fun _ t14 _ => n - (intOf t14).toNat)
    case atStart => exact ⟨0, 0, AB.new, by omega, by omega, rfl, rfl, by omega, by omega, H.out, Stl.new, FF.out⟩
    case round =>
      clear H FF
      obtain ⟨k, nw, X, hk, hk2, rfl, rfl, hw0, hw1, h4, st4, f4⟩ := hrel
      have ST4 := Lib.hid st4
      have H4 := Lib.hid h4
      have F4 := Lib.hid f4
      clear h4 f4 st4
      by_cases hlt : k < n ∧ k < 100
      · obtain ⟨l1, l2⟩ := hlt
        obtain ⟨x, hx⟩ : ∃ x, xs[k]? = some x := ⟨xs[k]'(by rw [← HN.out]; exact l1), List.getElem?_eq_getElem _⟩
        have HXO := Lib.hid (HS.out.2.2.2.2.2 x (List.mem_of_getElem? hx))
        cases ao with
        | none => exfalso; have := HS.out.2.2.2.1 rfl; omega
        | some a =>
          obtain ⟨bo, bcap, c0, c1, c2, c3, c4, hbx⟩ := HS.out.2.2.2.2.1 a rfl k x hx
          have c0 := F4.out.cell c0 (fun h => h)
          have c1 := F4.out.cell c1 (fun h => h)
          have c2 := F4.out.cell c2 (fun h => h)
          have c3 := F4.out.cell c3 (fun h => h)
          have c4 := F4.out.cell c4 (fun h => h)
          have hsp : (a.add (k * 5)).spot = none := World.cell?_spot c0
          obtain ⟨⟨ab, aoff, asp⟩, ha⟩ : ∃ b, a.add (k * 5) = b := ⟨_, rfl⟩
          rw [ha] at c0 c1 c2 c3 c4 hsp
          simp only at hsp c0 c1 c2 c3 c4
          subst hsp
          have HBX := Lib.hid (hbx.no F4.out)
          have by0 : (x.by_.toNat : Int) < 256 := by have := x.by_.toNat_lt; omega
          have by1 : (0 : Int) ≤ (x.by_.toNat : Int) := by omega
          obtain ⟨bl, hbl⟩ : ∃ m, x.b.length = m := ⟨_, rfl⟩
          have HBL := Lib.hid hbl
          rw [hbl] at c3
          clear hx hbx hbl
          go_wp2_with fail
          obtain ⟨r, hr⟩ : ∃ r, aDoes rm life X x (nw + (x.by_.toNat : Int)) = r := ⟨_, rfl⟩
          have ST5 := Lib.hid (show Stl r.2.2 by rw [← hr]; exact Stl.does H4.out.good ST4.out _ _ _ _)
          have HRR := Lib.hid hr
          have CA := l16does_z H4.out x HXO.out HBX.out (now := nw + (x.by_.toNat : Int)) (by omega) (by omega) HRR.out
          rw [HBL.out] at CA
          refine CA.mono ?_
          clear CA hr c0 c1 c2 c3 c4
          rintro e w5 ⟨po, pc, qo, qc, rfl, cp, cq, h5, f5⟩
          have F5 := Lib.hid (F4.out.then f5 (fun i hi h => h hi))
          have H5 := Lib.hid (h5.less (Z' := fun k => k < w.heap.size) (fun k hk => .inl hk))
          clear cp cq h5 f5 H4 F4 HBX
          go_wp2_with fail
          go_roundw
          case rel => exact ⟨k + 1, nw + (x.by_.toNat : Int), r.2.2, by omega, by omega, by go_num, rfl, by omega, by omega, H5.out, ST5.out, F5.out⟩
          case measure => simp [intOf]; omega
      · have hst : ¬ k < n ∨ (k < n ∧ ¬ k < 100) := by omega
        rcases hst with l1 | ⟨l1, l2⟩
        all_goals
          go_wp2_with fail
          go_meet
          exact ⟨nw, X, rfl, hw0, by omega, H4.out, ST4.out, F4.out⟩
  case rest =>
    clear H FF
    obtain ⟨nw, X, rfl, hw0, hw1, h4, st4, f4⟩ := hcut
    have ST4 := Lib.hid st4
    have H4 := Lib.hid h4
    have F4 := Lib.hid f4
    clear h4 f4 st4 hle hcap HS HN
    go_wp2_with fail
    obtain ⟨sv, hsv⟩ : ∃ s, (mget X.bd port).getD 0 = s := ⟨_, rfl⟩
    obtain ⟨one, hone⟩ : ∃ b, (mget X.bd port).isSome = b := ⟨_, rfl⟩
    refine (bgSegment_z H4.out HPO.out hsv hone).mono ?_
    rintro e w5 ⟨rfl, f5⟩
    have H5 := Lib.hid (H4.out.no f5)
    have F5 := Lib.hid (F4.out.trans f5)
    clear H4 F4 f5
    go_wp2_with fail
    obtain ⟨⟨c, X1⟩, hr⟩ : ∃ r, aBind X port to_ = r := ⟨_, rfl⟩
    refine (bgBind_z H5.out HPO.out hr).mono ?_
    rintro e w6 ⟨rfl, h6, f6⟩
    have H6 := Lib.hid h6
    have F6 := Lib.hid (F5.out.then f6 (fun i hi h => h hi))
    have HG := Lib.hid H5.out.good
    have HR := Lib.hid hr
    have HSV := Lib.hid hsv
    have HONE := Lib.hid hone
    clear H5 F5 h6 f6 hr hsv hone
    by_cases hc : c = 0
    · subst hc
      have hcase : (one = false ∧ mget X.bd port ≠ some to_) ∨ (one = true ∧ (sv == to_) = false ∧ mget X.bd port ≠ some to_) ∨ (one = true ∧ (sv == to_) = true ∧ mget X.bd port = some to_) := by
        have h3 := HONE.out
        have h4 := HSV.out
        cases hm : mget X.bd port with
        | none => rw [hm] at h3; exact .inl ⟨h3.symm, by simp⟩
        | some y =>
          rw [hm] at h3 h4
          have h4 : y = sv := h4
          subst h4
          by_cases e : y = to_
          · exact .inr (.inr ⟨h3.symm, by simpa using e, by rw [e]⟩)
          · exact .inr (.inl ⟨h3.symm, by simpa using e, by simpa using e⟩)
      have BC : Hid (mget X.bd port ≠ some to_ → okSeg to_ ∧ Clean X1 port ∧ mget X1.bd port = some to_) := Lib.hid (fun hne => by
        have h := bind_clean HG.out ST4.out (p := port) (t := to_) (by rw [HR.out]) hne
        rw [HR.out] at h
        exact h)
      rcases hcase with ⟨rfl, hne⟩ | ⟨rfl, hsq, hne⟩ | ⟨rfl, hsq, hbo⟩
      · obtain ⟨y1, y2, y3⟩ := BC.out hne
        clear hne
        go_upto_region 18 with fail
        have HTS := Lib.hid y1
        have CLN := Lib.hid y2
        have MGT := Lib.hid y3
        clear y1 y2 y3 BC
        clear HONE HSV HG ST4 HTO
        go_wp2_with fail
        go_loopw [18, 19] (fun t18 t19 wr => ∃ (s : Nat) (nn : Int), s ≤ 8 ∧ t19 = .int .i64 s ∧ t18 = .int .i64 nn ∧ nn = (if to_ < (s : Int) then 1 else 0) ∧ Fr No w6 wr) (fun _ t19 _ => 8 - (intOf t19).toNat)
        case atStart => exact ⟨0, 0, by omega, rfl, rfl, by have := HTS.out.1; rw [if_neg (by omega)], Fr.refl _ _⟩
        case round =>
          obtain ⟨s, nn, hs8, rfl, rfl, hnn, f7⟩ := hrel
          have HNN := Lib.hid hnn
          have nn0 : 0 ≤ nn ∧ nn ≤ 1 := by rw [hnn]; split <;> omega
          obtain ⟨nn1, nn2⟩ := nn0
          have H7 := Lib.hid (H6.out.no f7)
          have F7 := Lib.hid (F6.out.trans f7)
          have G7 := Lib.hid f7
          clear hnn f7
          by_cases hs : s < 8
          · have HSG : Hid (okSeg (s : Int)) := Lib.hid ⟨by omega, by omega⟩
            obtain ⟨bn, mn, LN, hbs, hfd, hab, hbz⟩ := bgBase_fd H7.out HSG.out
            have HBS := Lib.hid hbs
            have HFD := Lib.hid hfd
            have HAB := Lib.hid hab
            have CL := Lib.hid (CLN.out (s : Int) HSG.out)
            clear hbs hfd hab hbz
            go_wp2_with fail
            refine (HBS.out _ (Fr.refl _ _)).mono ?_
            rintro e w8 ⟨rfl, rfl⟩
            go_wp2_with fail
            refine (fbList_at HFD.out HAB.out).mono ?_
            rintro e w8 ⟨la, lc, rfl, lo, lnew, lf⟩
            have H8 := Lib.hid (H7.out.no lf)
            have F8 := Lib.hid (F7.out.trans lf)
            have G8 := Lib.hid (G7.out.trans lf)
            have LO := Lib.hid lo
            have lle := lo.le
            have lcl := lo.capLe
            obtain ⟨A, hA⟩ : ∃ A, (X1.at (s : Int)).A = A := ⟨_, rfl⟩
            rw [hA] at CL LO lle ⊢
            obtain ⟨ln, hln⟩ : ∃ m, A.length = m := ⟨_, rfl⟩
            have HLN := Lib.hid hln
            rw [hln] at lle ⊢
            clear hA hln lo lnew lf H7 F7 G7 HFD HAB HBS
            go_wp2_with fail
            go_loopw [21] (fun t21 wr3 => ∃ k : Nat, k ≤ ln ∧ t21 = .int .i64 k ∧ Fr No w8 wr3) (fun t21 _ => ln - (intOf t21).toNat)
            case atStart => exact ⟨0, by omega, rfl, Fr.refl _ _⟩
            case round =>
              obtain ⟨k, hk, rfl, f9⟩ := hrel
              have H9 := Lib.hid (H8.out.no f9)
              have G9 := Lib.hid f9
              have L9 := Lib.hid (LO.out.no f9)
              clear f9
              by_cases hkl : k < ln
              · obtain ⟨e, he⟩ : ∃ e, A[k]? = some e := ⟨A[k]'(by rw [HLN.out]; exact hkl), List.getElem?_eq_getElem _⟩
                have hne := CL.out e (List.mem_of_getElem? he)
                obtain ⟨g, hg, hc9⟩ := own_entry L9.out he
                subst hg
                obtain ⟨m, et, en, ea, es⟩ := e
                have hne : ¬ ((⟨et, en⟩ : Pl) = ⟨false, port⟩) := hne
                have y6 := hc9 6 (.bool et) rfl
                have y7 := hc9 7 (.int .i64 en) rfl
                have hpl : ∀ W, (binOp .eql 46 (.agg #[.bool et, .int .i64 en]) (.agg #[.bool false, .int .i64 port])).run Try.prog W = .ok (.bool false) W := fun W => by have h := eqPl ⟨et, en⟩ ⟨false, port⟩ W; rw [decide_eq_false hne] at h; exact h
                have kl1 : (k : Int) < (ln : Int) := by omega
                clear hc9 hne he
                go_wp2_with fail
                go_roundw
                case rel => exact ⟨k + 1, by omega, by go_num, G9.out⟩
                case measure => simp [intOf]; omega
              · have hkl2 : k = ln := by omega
                clear hkl2
                go_wp2_with fail
                refine (bgPorts_z H9.out HSG.out).mono ?_
                rintro e w10 ⟨pa, pcp, rfl, po, pf, -⟩
                have H10 := Lib.hid (H9.out.no pf)
                have G10 := Lib.hid ((G8.out.trans G9.out).trans pf)
                have PC := Lib.hid (ports_cnt H9.out.good MGT.out HSG.out)
                have hpl := H9.out.good.pl HSG.out
                obtain ⟨ps, hps⟩ : ∃ ps, (X1.at (s : Int)).ps = ps := ⟨_, rfl⟩
                rw [hps] at PC hpl po ⊢
                obtain ⟨lp, hlp⟩ : ∃ m, ps.length = m := ⟨_, rfl⟩
                have HLP := Lib.hid hlp
                have PO := Lib.hid po
                rw [hlp] at hpl PO ⊢
                clear hps hlp po pf H8 F8 G8 H9 G9 L9 CL LO HLN
                go_wp2_with fail
                go_loopw [18, 23] (fun t18 t23 wr4 => ∃ (k : Nat) (c : Int), k ≤ lp ∧ t23 = .int .i64 k ∧ t18 = .int .i64 (nn + c) ∧ c = cntI port (ps.take k) ∧ Fr No w10 wr4) (fun _ t23 _ => lp - (intOf t23).toNat)
                case atStart => exact ⟨0, 0, by omega, rfl, by simp, by simp [cntI], Fr.refl _ _⟩
                case round =>
                  obtain ⟨k, c, hk, rfl, rfl, hc, f11⟩ := hrel
                  have HC := Lib.hid hc
                  have hcl := cntI_le port (ps.take k)
                  rw [← hc, List.length_take] at hcl
                  obtain ⟨cl0, cl1⟩ := hcl
                  have cl2 : c ≤ 16 := by omega
                  have G11 := Lib.hid (G10.out.trans f11)
                  have H11 := Lib.hid (H10.out.no f11)
                  have P11 := Lib.hid (PO.out.no f11)
                  have K11 := Lib.hid f11
                  clear hc f11 cl1
                  by_cases hkl : k < lp
                  · obtain ⟨p, hp⟩ : ∃ p, ps[k]? = some p := ⟨ps[k]'(by rw [HLP.out]; exact hkl), List.getElem?_eq_getElem _⟩
                    obtain ⟨g, hg, cp⟩ := oi_cell P11.out hp
                    subst hg
                    have HTK : Hid (ps.take (k + 1) = ps.take k ++ [p]) := Lib.hid (by rw [List.take_add_one, hp]; rfl)
                    have kl1 : (k : Int) < (lp : Int) := by omega
                    obtain ⟨q, hq⟩ : ∃ q, (p == port) = q := ⟨_, rfl⟩
                    have HQ := Lib.hid hq
                    clear hp
                    cases q with
                    | false =>
                      go_wp2_with fail
                      go_roundw
                      case rel => exact ⟨k + 1, c, by omega, by go_num, rfl, by rw [HTK.out, cntI_snoc, ← HC.out, HQ.out]; simp, K11.out⟩
                      case measure => simp [intOf]; omega
                    | true =>
                      go_wp2_with fail
                      go_roundw
                      case rel => exact ⟨k + 1, c + 1, by omega, by go_num, by rw [Int.add_assoc], by rw [HTK.out, cntI_snoc, ← HC.out, HQ.out]; simp, K11.out⟩
                      case measure => simp [intOf]; omega
                  · have hkl2 : ps.take k = ps := List.take_of_length_le (by have := HLP.out; omega)
                    rw [hkl2, PC.out] at HC
                    have hnext : nn + c = if to_ < ((s + 1 : Nat) : Int) then 1 else 0 := by
                      rw [HNN.out, HC.out]
                      by_cases e : (s : Int) = to_
                      · rw [if_pos e, if_neg (by omega), if_pos (by omega)]; rfl
                      · rw [if_neg e]
                        by_cases e2 : to_ < (s : Int)
                        · rw [if_pos e2, if_pos (by omega)]; rfl
                        · rw [if_neg e2, if_neg (by omega)]; rfl
                    have HNX := Lib.hid hnext
                    clear hnext hkl2
                    go_wp2_with fail
                    go_roundw
                    case rel => exact ⟨s + 1, nn + c, by omega, by go_num, rfl, HNX.out, G11.out⟩
                    case measure => simp [intOf]; omega
          · have hs2 : s = 8 := by omega
            have hn1 : nn = 1 := by have h := HNN.out; rw [if_pos (by have := HTS.out.2; omega)] at h; exact h
            subst hs2
            subst hn1
            go_wp2_with fail
            go_ret
            exact ⟨rfl, F7.out⟩
      · obtain ⟨y1, y2, y3⟩ := BC.out hne
        clear hne
        go_upto_region 18 with fail
        have HTS := Lib.hid y1
        have CLN := Lib.hid y2
        have MGT := Lib.hid y3
        clear y1 y2 y3 BC
        clear HONE HSV HG ST4 HTO
        go_wp2_with fail
        go_loopw [18, 19] (fun t18 t19 wr => ∃ (s : Nat) (nn : Int), s ≤ 8 ∧ t19 = .int .i64 s ∧ t18 = .int .i64 nn ∧ nn = (if to_ < (s : Int) then 1 else 0) ∧ Fr No w6 wr) (fun _ t19 _ => 8 - (intOf t19).toNat)
        case atStart => exact ⟨0, 0, by omega, rfl, rfl, by have := HTS.out.1; rw [if_neg (by omega)], Fr.refl _ _⟩
        case round =>
          obtain ⟨s, nn, hs8, rfl, rfl, hnn, f7⟩ := hrel
          have HNN := Lib.hid hnn
          have nn0 : 0 ≤ nn ∧ nn ≤ 1 := by rw [hnn]; split <;> omega
          obtain ⟨nn1, nn2⟩ := nn0
          have H7 := Lib.hid (H6.out.no f7)
          have F7 := Lib.hid (F6.out.trans f7)
          have G7 := Lib.hid f7
          clear hnn f7
          by_cases hs : s < 8
          · have HSG : Hid (okSeg (s : Int)) := Lib.hid ⟨by omega, by omega⟩
            obtain ⟨bn, mn, LN, hbs, hfd, hab, hbz⟩ := bgBase_fd H7.out HSG.out
            have HBS := Lib.hid hbs
            have HFD := Lib.hid hfd
            have HAB := Lib.hid hab
            have CL := Lib.hid (CLN.out (s : Int) HSG.out)
            clear hbs hfd hab hbz
            go_wp2_with fail
            refine (HBS.out _ (Fr.refl _ _)).mono ?_
            rintro e w8 ⟨rfl, rfl⟩
            go_wp2_with fail
            refine (fbList_at HFD.out HAB.out).mono ?_
            rintro e w8 ⟨la, lc, rfl, lo, lnew, lf⟩
            have H8 := Lib.hid (H7.out.no lf)
            have F8 := Lib.hid (F7.out.trans lf)
            have G8 := Lib.hid (G7.out.trans lf)
            have LO := Lib.hid lo
            have lle := lo.le
            have lcl := lo.capLe
            obtain ⟨A, hA⟩ : ∃ A, (X1.at (s : Int)).A = A := ⟨_, rfl⟩
            rw [hA] at CL LO lle ⊢
            obtain ⟨ln, hln⟩ : ∃ m, A.length = m := ⟨_, rfl⟩
            have HLN := Lib.hid hln
            rw [hln] at lle ⊢
            clear hA hln lo lnew lf H7 F7 G7 HFD HAB HBS
            go_wp2_with fail
            go_loopw [21] (fun t21 wr3 => ∃ k : Nat, k ≤ ln ∧ t21 = .int .i64 k ∧ Fr No w8 wr3) (fun t21 _ => ln - (intOf t21).toNat)
            case atStart => exact ⟨0, by omega, rfl, Fr.refl _ _⟩
            case round =>
              obtain ⟨k, hk, rfl, f9⟩ := hrel
              have H9 := Lib.hid (H8.out.no f9)
              have G9 := Lib.hid f9
              have L9 := Lib.hid (LO.out.no f9)
              clear f9
              by_cases hkl : k < ln
              · obtain ⟨e, he⟩ : ∃ e, A[k]? = some e := ⟨A[k]'(by rw [HLN.out]; exact hkl), List.getElem?_eq_getElem _⟩
                have hne := CL.out e (List.mem_of_getElem? he)
                obtain ⟨g, hg, hc9⟩ := own_entry L9.out he
                subst hg
                obtain ⟨m, et, en, ea, es⟩ := e
                have hne : ¬ ((⟨et, en⟩ : Pl) = ⟨false, port⟩) := hne
                have y6 := hc9 6 (.bool et) rfl
                have y7 := hc9 7 (.int .i64 en) rfl
                have hpl : ∀ W, (binOp .eql 46 (.agg #[.bool et, .int .i64 en]) (.agg #[.bool false, .int .i64 port])).run Try.prog W = .ok (.bool false) W := fun W => by have h := eqPl ⟨et, en⟩ ⟨false, port⟩ W; rw [decide_eq_false hne] at h; exact h
                have kl1 : (k : Int) < (ln : Int) := by omega
                clear hc9 hne he
                go_wp2_with fail
                go_roundw
                case rel => exact ⟨k + 1, by omega, by go_num, G9.out⟩
                case measure => simp [intOf]; omega
              · have hkl2 : k = ln := by omega
                clear hkl2
                go_wp2_with fail
                refine (bgPorts_z H9.out HSG.out).mono ?_
                rintro e w10 ⟨pa, pcp, rfl, po, pf, -⟩
                have H10 := Lib.hid (H9.out.no pf)
                have G10 := Lib.hid ((G8.out.trans G9.out).trans pf)
                have PC := Lib.hid (ports_cnt H9.out.good MGT.out HSG.out)
                have hpl := H9.out.good.pl HSG.out
                obtain ⟨ps, hps⟩ : ∃ ps, (X1.at (s : Int)).ps = ps := ⟨_, rfl⟩
                rw [hps] at PC hpl po ⊢
                obtain ⟨lp, hlp⟩ : ∃ m, ps.length = m := ⟨_, rfl⟩
                have HLP := Lib.hid hlp
                have PO := Lib.hid po
                rw [hlp] at hpl PO ⊢
                clear hps hlp po pf H8 F8 G8 H9 G9 L9 CL LO HLN
                go_wp2_with fail
                go_loopw [18, 23] (fun t18 t23 wr4 => ∃ (k : Nat) (c : Int), k ≤ lp ∧ t23 = .int .i64 k ∧ t18 = .int .i64 (nn + c) ∧ c = cntI port (ps.take k) ∧ Fr No w10 wr4) (fun _ t23 _ => lp - (intOf t23).toNat)
                case atStart => exact ⟨0, 0, by omega, rfl, by simp, by simp [cntI], Fr.refl _ _⟩
                case round =>
                  obtain ⟨k, c, hk, rfl, rfl, hc, f11⟩ := hrel
                  have HC := Lib.hid hc
                  have hcl := cntI_le port (ps.take k)
                  rw [← hc, List.length_take] at hcl
                  obtain ⟨cl0, cl1⟩ := hcl
                  have cl2 : c ≤ 16 := by omega
                  have G11 := Lib.hid (G10.out.trans f11)
                  have H11 := Lib.hid (H10.out.no f11)
                  have P11 := Lib.hid (PO.out.no f11)
                  have K11 := Lib.hid f11
                  clear hc f11 cl1
                  by_cases hkl : k < lp
                  · obtain ⟨p, hp⟩ : ∃ p, ps[k]? = some p := ⟨ps[k]'(by rw [HLP.out]; exact hkl), List.getElem?_eq_getElem _⟩
                    obtain ⟨g, hg, cp⟩ := oi_cell P11.out hp
                    subst hg
                    have HTK : Hid (ps.take (k + 1) = ps.take k ++ [p]) := Lib.hid (by rw [List.take_add_one, hp]; rfl)
                    have kl1 : (k : Int) < (lp : Int) := by omega
                    obtain ⟨q, hq⟩ : ∃ q, (p == port) = q := ⟨_, rfl⟩
                    have HQ := Lib.hid hq
                    clear hp
                    cases q with
                    | false =>
                      go_wp2_with fail
                      go_roundw
                      case rel => exact ⟨k + 1, c, by omega, by go_num, rfl, by rw [HTK.out, cntI_snoc, ← HC.out, HQ.out]; simp, K11.out⟩
                      case measure => simp [intOf]; omega
                    | true =>
                      go_wp2_with fail
                      go_roundw
                      case rel => exact ⟨k + 1, c + 1, by omega, by go_num, by rw [Int.add_assoc], by rw [HTK.out, cntI_snoc, ← HC.out, HQ.out]; simp, K11.out⟩
                      case measure => simp [intOf]; omega
                  · have hkl2 : ps.take k = ps := List.take_of_length_le (by have := HLP.out; omega)
                    rw [hkl2, PC.out] at HC
                    have hnext : nn + c = if to_ < ((s + 1 : Nat) : Int) then 1 else 0 := by
                      rw [HNN.out, HC.out]
                      by_cases e : (s : Int) = to_
                      · rw [if_pos e, if_neg (by omega), if_pos (by omega)]; rfl
                      · rw [if_neg e]
                        by_cases e2 : to_ < (s : Int)
                        · rw [if_pos e2, if_pos (by omega)]; rfl
                        · rw [if_neg e2, if_neg (by omega)]; rfl
                    have HNX := Lib.hid hnext
                    clear hnext hkl2
                    go_wp2_with fail
                    go_roundw
                    case rel => exact ⟨s + 1, nn + c, by omega, by go_num, rfl, HNX.out, G11.out⟩
                    case measure => simp [intOf]; omega
          · have hs2 : s = 8 := by omega
            have hn1 : nn = 1 := by have h := HNN.out; rw [if_pos (by have := HTS.out.2; omega)] at h; exact h
            subst hs2
            subst hn1
            go_wp2_with fail
            go_ret
            exact ⟨rfl, F7.out⟩
      · obtain ⟨r1, r2, r3, r4⟩ := rebind HG.out ST4.out (HG.out.bk port to_ hbo).1.1 hbo
        have hX1 : X1 = X := by have h := HR.out; rw [r1] at h; exact (congrArg Prod.snd h).symm
        rw [hX1] at H6
        clear hX1
        obtain ⟨⟨cu, U⟩, hu⟩ : ∃ r, aUnbind X port = r := ⟨_, rfl⟩
        rw [hu] at r2 r3 r4
        simp only at r2 r3 r4
        subst r2
        obtain ⟨⟨cv, X1⟩, hv⟩ : ∃ r, aBind U port to_ = r := ⟨_, rfl⟩
        have hUg : Good U := by have h := HG.out.unbind port; rw [hu] at h; exact h
        have hUs : Stl U := by have h := Stl.unbind HG.out ST4.out port; rw [hu] at h; exact h
        have hB := bind_clean hUg hUs (p := port) (t := to_) r3 r4
        rw [hv] at hB
        have HB := Lib.hid hB
        have HU := Lib.hid hu
        have HV := Lib.hid hv
        clear hB hu hv hUg hUs r1 r3 r4 hbo BC HR
        go_wp2_with fail
        refine (bgUnbind_z H6.out HPO.out HU.out).mono ?_
        rintro e w7 ⟨rfl, h7, f7⟩
        have H7 := Lib.hid h7
        have F7 := Lib.hid (F6.out.then f7 (fun i hi h => h hi))
        clear h7 f7 H6 F6
        go_wp2_with fail
        refine (bgBind_z H7.out HPO.out HV.out).mono ?_
        rintro e w6 ⟨rfl, h6, f6⟩
        have H6 := Lib.hid h6
        have F6 := Lib.hid (F7.out.then f6 (fun i hi h => h hi))
        clear h6 f6 H7 F7
        have HTS := Lib.hid HB.out.1
        have CLN := Lib.hid HB.out.2.1
        have MGT := Lib.hid HB.out.2.2
        clear HB HU HV
        go_upto_region 18 with fail
        clear HONE HSV HG ST4 HTO
        go_wp2_with fail
        go_loopw [18, 19] (fun t18 t19 wr => ∃ (s : Nat) (nn : Int), s ≤ 8 ∧ t19 = .int .i64 s ∧ t18 = .int .i64 nn ∧ nn = (if to_ < (s : Int) then 1 else 0) ∧ Fr No w6 wr) (fun _ t19 _ => 8 - (intOf t19).toNat)
        case atStart => exact ⟨0, 0, by omega, rfl, rfl, by have := HTS.out.1; rw [if_neg (by omega)], Fr.refl _ _⟩
        case round =>
          obtain ⟨s, nn, hs8, rfl, rfl, hnn, f7⟩ := hrel
          have HNN := Lib.hid hnn
          have nn0 : 0 ≤ nn ∧ nn ≤ 1 := by rw [hnn]; split <;> omega
          obtain ⟨nn1, nn2⟩ := nn0
          have H7 := Lib.hid (H6.out.no f7)
          have F7 := Lib.hid (F6.out.trans f7)
          have G7 := Lib.hid f7
          clear hnn f7
          by_cases hs : s < 8
          · have HSG : Hid (okSeg (s : Int)) := Lib.hid ⟨by omega, by omega⟩
            obtain ⟨bn, mn, LN, hbs, hfd, hab, hbz⟩ := bgBase_fd H7.out HSG.out
            have HBS := Lib.hid hbs
            have HFD := Lib.hid hfd
            have HAB := Lib.hid hab
            have CL := Lib.hid (CLN.out (s : Int) HSG.out)
            clear hbs hfd hab hbz
            go_wp2_with fail
            refine (HBS.out _ (Fr.refl _ _)).mono ?_
            rintro e w8 ⟨rfl, rfl⟩
            go_wp2_with fail
            refine (fbList_at HFD.out HAB.out).mono ?_
            rintro e w8 ⟨la, lc, rfl, lo, lnew, lf⟩
            have H8 := Lib.hid (H7.out.no lf)
            have F8 := Lib.hid (F7.out.trans lf)
            have G8 := Lib.hid (G7.out.trans lf)
            have LO := Lib.hid lo
            have lle := lo.le
            have lcl := lo.capLe
            obtain ⟨A, hA⟩ : ∃ A, (X1.at (s : Int)).A = A := ⟨_, rfl⟩
            rw [hA] at CL LO lle ⊢
            obtain ⟨ln, hln⟩ : ∃ m, A.length = m := ⟨_, rfl⟩
            have HLN := Lib.hid hln
            rw [hln] at lle ⊢
            clear hA hln lo lnew lf H7 F7 G7 HFD HAB HBS
            go_wp2_with fail
            go_loopw [21] (fun t21 wr3 => ∃ k : Nat, k ≤ ln ∧ t21 = .int .i64 k ∧ Fr No w8 wr3) (fun t21 _ => ln - (intOf t21).toNat)
            case atStart => exact ⟨0, by omega, rfl, Fr.refl _ _⟩
            case round =>
              obtain ⟨k, hk, rfl, f9⟩ := hrel
              have H9 := Lib.hid (H8.out.no f9)
              have G9 := Lib.hid f9
              have L9 := Lib.hid (LO.out.no f9)
              clear f9
              by_cases hkl : k < ln
              · obtain ⟨e, he⟩ : ∃ e, A[k]? = some e := ⟨A[k]'(by rw [HLN.out]; exact hkl), List.getElem?_eq_getElem _⟩
                have hne := CL.out e (List.mem_of_getElem? he)
                obtain ⟨g, hg, hc9⟩ := own_entry L9.out he
                subst hg
                obtain ⟨m, et, en, ea, es⟩ := e
                have hne : ¬ ((⟨et, en⟩ : Pl) = ⟨false, port⟩) := hne
                have y6 := hc9 6 (.bool et) rfl
                have y7 := hc9 7 (.int .i64 en) rfl
                have hpl : ∀ W, (binOp .eql 46 (.agg #[.bool et, .int .i64 en]) (.agg #[.bool false, .int .i64 port])).run Try.prog W = .ok (.bool false) W := fun W => by have h := eqPl ⟨et, en⟩ ⟨false, port⟩ W; rw [decide_eq_false hne] at h; exact h
                have kl1 : (k : Int) < (ln : Int) := by omega
                clear hc9 hne he
                go_wp2_with fail
                go_roundw
                case rel => exact ⟨k + 1, by omega, by go_num, G9.out⟩
                case measure => simp [intOf]; omega
              · have hkl2 : k = ln := by omega
                clear hkl2
                go_wp2_with fail
                refine (bgPorts_z H9.out HSG.out).mono ?_
                rintro e w10 ⟨pa, pcp, rfl, po, pf, -⟩
                have H10 := Lib.hid (H9.out.no pf)
                have G10 := Lib.hid ((G8.out.trans G9.out).trans pf)
                have PC := Lib.hid (ports_cnt H9.out.good MGT.out HSG.out)
                have hpl := H9.out.good.pl HSG.out
                obtain ⟨ps, hps⟩ : ∃ ps, (X1.at (s : Int)).ps = ps := ⟨_, rfl⟩
                rw [hps] at PC hpl po ⊢
                obtain ⟨lp, hlp⟩ : ∃ m, ps.length = m := ⟨_, rfl⟩
                have HLP := Lib.hid hlp
                have PO := Lib.hid po
                rw [hlp] at hpl PO ⊢
                clear hps hlp po pf H8 F8 G8 H9 G9 L9 CL LO HLN
                go_wp2_with fail
                go_loopw [18, 23] (fun t18 t23 wr4 => ∃ (k : Nat) (c : Int), k ≤ lp ∧ t23 = .int .i64 k ∧ t18 = .int .i64 (nn + c) ∧ c = cntI port (ps.take k) ∧ Fr No w10 wr4) (fun _ t23 _ => lp - (intOf t23).toNat)
                case atStart => exact ⟨0, 0, by omega, rfl, by simp, by simp [cntI], Fr.refl _ _⟩
                case round =>
                  obtain ⟨k, c, hk, rfl, rfl, hc, f11⟩ := hrel
                  have HC := Lib.hid hc
                  have hcl := cntI_le port (ps.take k)
                  rw [← hc, List.length_take] at hcl
                  obtain ⟨cl0, cl1⟩ := hcl
                  have cl2 : c ≤ 16 := by omega
                  have G11 := Lib.hid (G10.out.trans f11)
                  have H11 := Lib.hid (H10.out.no f11)
                  have P11 := Lib.hid (PO.out.no f11)
                  have K11 := Lib.hid f11
                  clear hc f11 cl1
                  by_cases hkl : k < lp
                  · obtain ⟨p, hp⟩ : ∃ p, ps[k]? = some p := ⟨ps[k]'(by rw [HLP.out]; exact hkl), List.getElem?_eq_getElem _⟩
                    obtain ⟨g, hg, cp⟩ := oi_cell P11.out hp
                    subst hg
                    have HTK : Hid (ps.take (k + 1) = ps.take k ++ [p]) := Lib.hid (by rw [List.take_add_one, hp]; rfl)
                    have kl1 : (k : Int) < (lp : Int) := by omega
                    obtain ⟨q, hq⟩ : ∃ q, (p == port) = q := ⟨_, rfl⟩
                    have HQ := Lib.hid hq
                    clear hp
                    cases q with
                    | false =>
                      go_wp2_with fail
                      go_roundw
                      case rel => exact ⟨k + 1, c, by omega, by go_num, rfl, by rw [HTK.out, cntI_snoc, ← HC.out, HQ.out]; simp, K11.out⟩
                      case measure => simp [intOf]; omega
                    | true =>
                      go_wp2_with fail
                      go_roundw
                      case rel => exact ⟨k + 1, c + 1, by omega, by go_num, by rw [Int.add_assoc], by rw [HTK.out, cntI_snoc, ← HC.out, HQ.out]; simp, K11.out⟩
                      case measure => simp [intOf]; omega
                  · have hkl2 : ps.take k = ps := List.take_of_length_le (by have := HLP.out; omega)
                    rw [hkl2, PC.out] at HC
                    have hnext : nn + c = if to_ < ((s + 1 : Nat) : Int) then 1 else 0 := by
                      rw [HNN.out, HC.out]
                      by_cases e : (s : Int) = to_
                      · rw [if_pos e, if_neg (by omega), if_pos (by omega)]; rfl
                      · rw [if_neg e]
                        by_cases e2 : to_ < (s : Int)
                        · rw [if_pos e2, if_pos (by omega)]; rfl
                        · rw [if_neg e2, if_neg (by omega)]; rfl
                    have HNX := Lib.hid hnext
                    clear hnext hkl2
                    go_wp2_with fail
                    go_roundw
                    case rel => exact ⟨s + 1, nn + c, by omega, by go_num, rfl, HNX.out, G11.out⟩
                    case measure => simp [intOf]; omega
          · have hs2 : s = 8 := by omega
            have hn1 : nn = 1 := by have h := HNN.out; rw [if_pos (by have := HTS.out.2; omega)] at h; exact h
            subst hs2
            subst hn1
            go_wp2_with fail
            go_ret
            exact ⟨rfl, F7.out⟩
    · have hc' : (c == 0) = false := by simpa using hc
      have h15 : c = 1 ∨ c = 5 := by
        have h := bind_codes X port to_
        rw [HR.out] at h
        simp only at h
        rcases h with h | h | h
        · exact absurd h hc
        · exact .inl h
        · exact .inr h
      rcases h15 with rfl | rfl
      all_goals
        go_wp2_with fail
        go_ret
        exact ⟨rfl, F6.out⟩
end Go.Proofs.Yticebdoiahadoaa

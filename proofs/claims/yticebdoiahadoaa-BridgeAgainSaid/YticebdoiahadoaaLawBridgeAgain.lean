/- BridgeAgain. -/
import Derived.Test.YticebdoiahadoaaBl10
import Derived.Test.YticebdoiahadoaaFd24l
import Derived.Test.YticebdoiahadoaaEqE
import Derived.Deep.DeepCutAuto
import Derived.Deep.CutBlock
namespace Go.Proofs.Yticebdoiahadoaa
open Go.RowKit
set_option linter.unusedVariables false
set_option linter.unusedSimpArgs false

/-- The cells of an entry of a List. -/
theorem ent_cells2 {w : World} {ao : Option Addr} {cap : Nat} {A : AL} (h : Own w 73 10 ao A.length cap (A.flatMap encE)) {k : Nat} {a b c d e f : UInt8} {tu st : Bool} {pn at_ : Int} (hi : A[k]? = some ⟨⟨a, b, c, d, e, f⟩, tu, pn, at_, st⟩) : ∃ g, ao = some ⟨g, 0, none⟩ ∧
    w.cell? ⟨g, k * 10, none⟩ = some (.int .u8 (a.toNat : Int)) ∧ w.cell? ⟨g, k * 10 + 1, none⟩ = some (.int .u8 (b.toNat : Int)) ∧ w.cell? ⟨g, k * 10 + 2, none⟩ = some (.int .u8 (c.toNat : Int)) ∧ w.cell? ⟨g, k * 10 + 3, none⟩ = some (.int .u8 (d.toNat : Int)) ∧
    w.cell? ⟨g, k * 10 + 4, none⟩ = some (.int .u8 (e.toNat : Int)) ∧ w.cell? ⟨g, k * 10 + 5, none⟩ = some (.int .u8 (f.toNat : Int)) ∧ w.cell? ⟨g, k * 10 + 6, none⟩ = some (.bool tu) ∧ w.cell? ⟨g, k * 10 + 7, none⟩ = some (.int .i64 pn) ∧ w.cell? ⟨g, k * 10 + 8, none⟩ = some (.int .u64 at_) ∧ w.cell? ⟨g, k * 10 + 9, none⟩ = some (.bool st) := by
  obtain ⟨g, hg, hc⟩ := own_entry h hi
  exact ⟨g, hg, hc 0 _ rfl, hc 1 _ rfl, hc 2 _ rfl, hc 3 _ rfl, hc 4 _ rfl, hc 5 _ rfl, hc 6 _ rfl, hc 7 _ rfl, hc 8 _ rfl, hc 9 _ rfl⟩

set_option maxRecDepth 100000 in
set_option maxHeartbeats 8000000 in
theorem BridgeAgain_walk {w : World} (room : Int) {life : Int} (hl0 : 0 ≤ life) (hl1 : life < 18446744073709551616) {ao : Option Addr} {n cap : Nat} {xs : List St16} (hs : Rs16 w ao n cap xs) :
    Calls Try.prog 9 #[.int .i64 room, .int .u64 life, .slice ao n cap] w fun e w' => e = .returned (.bool true) ∧ Fr No w w' := by
  have HS := Lib.hid hs
  have HN := Lib.hid hs.1
  have hle := hs.2.1
  have hcap := hs.2.2.1
  clear hs
  go_enter Try.func9, Try.ntmps9
  go_wp2_with fail
  refine (l16shown_any w).mono ?_
  rintro e w1 ⟨rfl, f1⟩
  go_wp2_with fail
  obtain ⟨rm, hrm⟩ : ∃ rm, min (max room 1) 64 = rm := ⟨_, rfl⟩
  refine (bgNew_z w1 room life hl0 hl1 hrm).mono ?_
  rintro e w2 ⟨ba, rfl, h2, f2⟩
  go_wp2_with fail
  refine (bgNew_z w2 room life hl0 hl1 hrm).mono ?_
  rintro e w3 ⟨bb, rfl, h3, f3⟩
  have H := Lib.hid (Two.new (w := w) (h2.less (fun k hk => Nat.lt_of_lt_of_le hk f1.size)) (f1.trans f2).size h3 f3)
  have FF := Lib.hid ((f1.trans f2).trans f3)
  clear h2 f1 f2 h3 f3 hrm
  go_upto_block 0 with fail
  go_cut [10] (fun t10 wc => ∃ X : AB, Two (fun k => k < w.heap.size) wc ba bb rm life X X ∧ Fr No w wc)
  case first =>
    go_wp2_with fail
    go_loopw [10, 11] (fun t10 t11 wr => ∃ (k : Nat) (nw : Int) (X : AB), k ≤ n ∧ k ≤ 100 ∧ t11 = .int .i64 k ∧ t10 = .int .u64 nw ∧ 0 ≤ nw ∧ nw ≤ 255 * (k : Int) ∧ Two (fun k => k < w.heap.size) wr ba bb rm life X X ∧ Fr No w wr) (fun _ t11 _ => n - (intOf t11).toNat)
    case atStart => exact ⟨0, 0, AB.new, by omega, by omega, rfl, rfl, by omega, by omega, H.out, FF.out⟩
    case round =>
      clear H FF
      obtain ⟨k, nw, X, hk, hk2, rfl, rfl, hw0, hw1, h4, f4⟩ := hrel
      have H4 := Lib.hid h4
      have F4 := Lib.hid f4
      clear h4 f4
      by_cases hlt : k < n ∧ k < 100
      · obtain ⟨l1, l2⟩ := hlt
        obtain ⟨x, hx⟩ : ∃ x, xs[k]? = some x := ⟨xs[k]'(by rw [← HN.out]; exact l1), List.getElem?_eq_getElem _⟩
        have HXO := Lib.hid (HS.out.2.2.2.2.2 x (List.mem_of_getElem? hx))
        cases ao with
        | none => exfalso; have := HS.out.2.2.2.1 rfl; omega
        | some a =>
          obtain ⟨bo, bcap, c0, c1, c2, c3, c4, hbx⟩ := HS.out.2.2.2.2.1 a rfl k x hx
          have hsp : (a.add (k * 5)).spot = none := World.cell?_spot c0
          obtain ⟨⟨ab, aoff, asp⟩, ha⟩ : ∃ b, a.add (k * 5) = b := ⟨_, rfl⟩
          rw [ha] at c0 c1 c2 c3 c4 hsp
          simp only at hsp c0 c1 c2 c3 c4
          subst hsp
          obtain ⟨bl, hbl⟩ : ∃ m, x.b.length = m := ⟨_, rfl⟩
          have HBL := Lib.hid hbl
          rw [hbl] at c3
          have C0 := Lib.hid c0
          have C1 := Lib.hid c1
          have C2 := Lib.hid c2
          have C3 := Lib.hid c3
          have C4 := Lib.hid c4
          have HB0 := Lib.hid hbx
          have c0 := F4.out.cell c0 (fun h => h)
          have c1 := F4.out.cell c1 (fun h => h)
          have c2 := F4.out.cell c2 (fun h => h)
          have c3 := F4.out.cell c3 (fun h => h)
          have c4 := F4.out.cell c4 (fun h => h)
          have HBX := Lib.hid (hbx.no F4.out)
          have by0 : (x.by_.toNat : Int) < 256 := by have := x.by_.toNat_lt; omega
          have by1 : (0 : Int) ≤ (x.by_.toNat : Int) := by omega
          clear hx hbx hbl
          go_wp2_with fail
          obtain ⟨r, hr⟩ : ∃ r, aDoes rm life X x (nw + (x.by_.toNat : Int)) = r := ⟨_, rfl⟩
          have HRR := Lib.hid hr
          clear hr
          obtain ⟨ZL, hl, hz, hstep⟩ := H4.out.stepL
          have HL := Lib.hid hl
          have HZ := Lib.hid hz
          have HST := Lib.hid hstep
          clear hl hz hstep
          have CA := l16does_z2 HL.out x HXO.out HBX.out (now := nw + (x.by_.toNat : Int)) (by omega) (by omega) HRR.out
          rw [HBL.out] at CA
          refine CA.mono ?_
          clear CA c0 c1 c2 c3 c4 HBX
          rintro e w5 ⟨po, pc, qo, qc, rfl, cp, cq, h5, f5, np, nq⟩
          have H5 := HST.out _ _ _ _ h5 f5 np nq
          obtain ⟨⟨rps, rqs, rf⟩, rs, rX⟩ := r
          dsimp only at cp cq h5 H5 ⊢
          obtain ⟨Z1, h6, z1, z2⟩ := H5.one (.cells #[.slice po rps.length pc, .slice qo rqs.length qc, .bool rf] 34)
          have fo := (Fr.refl No w5).alloc (.cells #[.slice po rps.length pc, .slice qo rqs.length qc, .bool rf] 34)
          have O6 := Lib.hid (heap_alloc_new w5 (.cells #[.slice po rps.length pc, .slice qo rqs.length qc, .bool rf] 34))
          have H6 := Lib.hid h6
          have ZW := Lib.hid (fun k hk => z1 k (.inl hk))
          have ZP := Lib.hid (fun a ha => z1 _ (.inr (.inl ⟨a, ha, rfl⟩)))
          have ZQ := Lib.hid (fun a ha => z1 _ (.inr (.inr ⟨a, ha, rfl⟩)))
          have ZO := Lib.hid z2
          have CP := Lib.hid (cp.no fo)
          have CQ := Lib.hid (cq.no fo)
          have F6 := Lib.hid ((F4.out.then f5 (fun i hi h => h (HZ.out i hi))).trans fo)
          clear cp cq h5 f5 np nq H5 h6 z1 z2 fo HL HZ HST H4 F4
          obtain ⟨n1, hn1⟩ : ∃ m, rps.length = m := ⟨_, rfl⟩
          obtain ⟨n2, hn2⟩ : ∃ m, rqs.length = m := ⟨_, rfl⟩
          rw [hn1, hn2] at O6 H6 ⊢
          rw [hn1, hn2] at CP
          rw [hn1, hn2] at CQ
          rw [hn1, hn2] at F6
          have HN1 := Lib.hid hn1
          have HN2 := Lib.hid hn2
          clear hn1 hn2
          go_upto_region 12 with fail
          generalize World.alloc _ _ = w6 at O6 H6 CP CQ F6 ⊢
          generalize w5.heap.size = ox at O6 ZO ⊢
          have c0 := F6.out.cell C0.out (fun h => h)
          have c1 := F6.out.cell C1.out (fun h => h)
          have c2 := F6.out.cell C2.out (fun h => h)
          have c3 := F6.out.cell C3.out (fun h => h)
          have c4 := F6.out.cell C4.out (fun h => h)
          have HBX := Lib.hid (HB0.out.no F6.out)
          go_wp2_with fail
          obtain ⟨ZL, hl, hz, hstep⟩ := H6.out.swap.stepL
          have HL := Lib.hid hl
          have HZ := Lib.hid hz
          have HST := Lib.hid hstep
          clear hl hz hstep
          have CA := l16does_z2 HL.out x HXO.out HBX.out (now := nw + (x.by_.toNat : Int)) (by omega) (by omega) HRR.out
          rw [HBL.out] at CA
          refine CA.mono ?_
          clear CA c0 c1 c2 c3 c4 HBX C0 C1 C2 C3 C4 HB0
          rintro e w7 ⟨po2, pc2, qo2, qc2, rfl, cp2, cq2, h7, f7, np, nq⟩
          dsimp only at cp2 cq2 h7 ⊢
          have H7 := Lib.hid ((HST.out _ _ _ _ h7 f7 np nq).swap)
          have fo := (Fr.refl No w7).alloc (.cells #[.slice po2 rps.length pc2, .slice qo2 rqs.length qc2, .bool rf] 34)
          have Y8 := Lib.hid (heap_alloc_new w7 (.cells #[.slice po2 rps.length pc2, .slice qo2 rqs.length qc2, .bool rf] 34))
          have H8 := Lib.hid ((H7.out.less (Z' := fun k => k < w.heap.size) (fun k hk => .inl (ZW.out k hk))).no fo)
          have F8 := Lib.hid ((F6.out.then f7 (fun i hi h => h (HZ.out i (ZW.out i hi)))).trans fo)
          have O8 := Lib.hid (fo.heap (f7.heap O6.out (fun h => h (HZ.out _ ZO.out))) (fun h => h))
          have CP8 := Lib.hid ((CP.out.fr f7 (fun a ha h => h (HZ.out _ (ZP.out a ha)))).no fo)
          have CQ8 := Lib.hid ((CQ.out.fr f7 (fun a ha h => h (HZ.out _ (ZQ.out a ha)))).no fo)
          have DP8 := Lib.hid (cp2.no fo)
          have DQ8 := Lib.hid (cq2.no fo)
          rw [HN1.out, HN2.out] at Y8 H8 F8 O8 ⊢
          rw [HN1.out, HN2.out] at CP8
          rw [HN1.out, HN2.out] at CQ8
          rw [HN1.out, HN2.out] at DP8
          rw [HN1.out, HN2.out] at DQ8
          clear cp2 cq2 h7 f7 np nq fo HL HZ HST H6 F6 O6 CP CQ ZW ZP ZQ ZO H7
          go_upto_region 13 with fail
          generalize World.alloc _ _ = w8 at Y8 H8 F8 O8 CP8 CQ8 DP8 DQ8 ⊢
          generalize w7.heap.size = oy at Y8 ⊢
          obtain ⟨s0, s1, s2⟩ := cells3 O8.out
          obtain ⟨y0, y1, y2⟩ := cells3 Y8.out
          have ss : (rs != rs) = false := by simp
          go_wp2_with fail
          refine (l16ints_same CP8.out DP8.out).mono ?_
          rintro e w9 ⟨rfl, f9⟩
          obtain ⟨s0, s1, s2⟩ := cells3 (f9.heap O8.out (fun h => h))
          obtain ⟨y0, y1, y2⟩ := cells3 (f9.heap Y8.out (fun h => h))
          go_wp2_with fail
          refine (l16ints_same (CQ8.out.no f9) (DQ8.out.no f9)).mono ?_
          rintro e w10 ⟨rfl, f10⟩
          obtain ⟨s0, s1, s2⟩ := cells3 ((f9.trans f10).heap O8.out (fun h => h))
          obtain ⟨y0, y1, y2⟩ := cells3 ((f9.trans f10).heap Y8.out (fun h => h))
          have ff : (rf != rf) = false := by simp
          have H10 := Lib.hid (H8.out.no (f9.trans f10))
          have F10 := Lib.hid (F8.out.trans (f9.trans f10))
          clear f9 f10 H8 F8 O8 Y8 CP8 CQ8 DP8 DQ8
          go_wp2_with fail
          go_roundw
          case rel => exact ⟨k + 1, nw + (x.by_.toNat : Int), rX, by omega, by omega, by go_num, rfl, by omega, by omega, H10.out, F10.out⟩
          case measure => simp [intOf]; omega
      · have hst : ¬ k < n ∨ (k < n ∧ ¬ k < 100) := by omega
        rcases hst with l1 | ⟨l1, l2⟩
        all_goals
          go_wp2_with fail
          go_meet
          exact ⟨X, H4.out, F4.out⟩
  case rest =>
    clear H FF
    obtain ⟨X, h4, f4⟩ := hcut
    have H4 := Lib.hid h4
    have F4 := Lib.hid f4
    clear h4 f4 hle hcap HS HN
    generalize wc = w4 at H4 F4 ⊢
    go_wp2_with fail
    go_loopw [16] (fun t16 wr => ∃ s : Nat, s ≤ 8 ∧ t16 = .int .i64 s ∧ Fr No w4 wr) (fun t16 _ => 8 - (intOf t16).toNat)
    case atStart => exact ⟨0, by omega, rfl, Fr.refl _ _⟩
    case round =>
      obtain ⟨s, hs8, rfl, f5⟩ := hrel
      have G5 := Lib.hid f5
      have H5 := Lib.hid (H4.out.no f5)
      clear f5
      by_cases hs : s < 8
      · have HSG : Hid (okSeg (s : Int)) := Lib.hid ⟨by omega, by omega⟩
        obtain ⟨b1, m1, L1, hbs1, hfd1, hab1, -⟩ := bgBase_fd H5.out.l HSG.out
        obtain ⟨b2, m2, L2, hbs2, hfd2, hab2, -⟩ := bgBase_fd H5.out.r HSG.out
        have HBS1 := Lib.hid hbs1
        have HFD1 := Lib.hid hfd1
        have HAB1 := Lib.hid hab1
        have HBS2 := Lib.hid hbs2
        have HFD2 := Lib.hid hfd2
        have HAB2 := Lib.hid hab2
        clear hbs1 hfd1 hab1 hbs2 hfd2 hab2
        go_wp2_with fail
        refine (HBS1.out _ (Fr.refl _ _)).mono ?_
        rintro e w6 ⟨rfl, rfl⟩
        go_wp2_with fail
        refine (fbList_at HFD1.out HAB1.out).mono ?_
        rintro e w6 ⟨la, lc, rfl, lo, -, f6⟩
        have LO6 := Lib.hid lo
        have F6 := Lib.hid f6
        clear lo f6
        go_wp2_with fail
        refine (HBS2.out _ F6.out).mono ?_
        rintro e w7 ⟨rfl, rfl⟩
        go_wp2_with fail
        refine (fbList_at (HFD2.out.no F6.out) HAB2.out).mono ?_
        rintro e w7 ⟨ma, mc, rfl, mo, -, f7⟩
        have MO7 := Lib.hid mo
        have LO7 := Lib.hid (LO6.out.no f7)
        have H7 := Lib.hid (H5.out.no (F6.out.trans f7))
        have G7 := Lib.hid (G5.out.trans (F6.out.trans f7))
        clear mo f7 F6 LO6 HBS1 HBS2 HFD1 HFD2 HAB1 HAB2 H5 G5
        obtain ⟨A, hA⟩ : ∃ A, (X.at (s : Int)).A = A := ⟨_, rfl⟩
        rw [hA] at MO7 LO7 ⊢
        obtain ⟨ln, hln⟩ : ∃ m, A.length = m := ⟨_, rfl⟩
        have HLN := Lib.hid hln
        rw [hln] at ⊢
        have lle := LO7.out.le
        have lcl := LO7.out.capLe
        have mle := MO7.out.le
        rw [hln] at lle mle
        clear hA hln
        go_wp2_with fail
        refine (bgPorts_z H7.out.l HSG.out).mono ?_
        rintro e w8 ⟨p1, q1, rfl, o1, f8, -⟩
        have O1 := Lib.hid o1
        have F8 := Lib.hid f8
        clear o1 f8
        go_wp2_with fail
        refine (bgPorts_z (H7.out.no F8.out).r HSG.out).mono ?_
        rintro e w9 ⟨p2, q2, rfl, o2, f9, -⟩
        have O2 := Lib.hid o2
        have F9 := Lib.hid (F8.out.trans f9)
        have O1 := Lib.hid (O1.out.no f9)
        clear o2 f9 F8
        go_wp2_with fail
        refine (l16ints_same O1.out O2.out).mono ?_
        rintro e w10 ⟨rfl, f10⟩
        have F10 := Lib.hid (F9.out.trans f10)
        clear f10 F9 O1 O2
        go_wp2_with fail
        refine (bgPeers_z (H7.out.no F10.out).l HSG.out).mono ?_
        rintro e w11 ⟨p1, q1, rfl, o1, f11, -⟩
        have O1 := Lib.hid o1
        have F11 := Lib.hid (F10.out.trans f11)
        clear o1 f11 F10
        go_wp2_with fail
        refine (bgPeers_z (H7.out.no F11.out).r HSG.out).mono ?_
        rintro e w12 ⟨p2, q2, rfl, o2, f12, -⟩
        have O2 := Lib.hid o2
        have F12 := Lib.hid (F11.out.trans f12)
        have O1 := Lib.hid (O1.out.no f12)
        clear o2 f12 F11
        go_wp2_with fail
        refine (l16ints_same O1.out O2.out).mono ?_
        rintro e w13 ⟨rfl, f13⟩
        have F13 := Lib.hid (F12.out.trans f13)
        have LO := Lib.hid (LO7.out.no F13.out)
        have MO := Lib.hid (MO7.out.no F13.out)
        have H13 := Lib.hid (H7.out.no F13.out)
        have G13 := Lib.hid (G7.out.trans F13.out)
        have nn : ((ln : Int) != (ln : Int)) = false := by simp
        clear f13 F12 O1 O2 LO7 MO7 H7 G7 F13
        go_wp2_with fail
        clear nn
        go_loopw [19] (fun t19 wr3 => ∃ k : Nat, k ≤ ln ∧ t19 = .int .i64 k ∧ Fr No w13 wr3) (fun t19 _ => ln - (intOf t19).toNat)
        case atStart => exact ⟨0, by omega, rfl, Fr.refl _ _⟩
        case round =>
          obtain ⟨k, hk, rfl, f14⟩ := hrel
          have G14 := Lib.hid (G13.out.trans f14)
          have F14 := Lib.hid f14
          by_cases hkl : k < ln
          · obtain ⟨e, he⟩ : ∃ e, A[k]? = some e := ⟨A[k]'(by rw [HLN.out]; exact hkl), List.getElem?_eq_getElem _⟩
            obtain ⟨⟨a, b, c, d, e, f⟩, tu, pn, at_, st⟩ := e
            obtain ⟨g1, hg1, x0, x1, x2, x3, x4, x5, x6, x7, x8, x9⟩ := ent_cells2 (LO.out.no f14) he
            obtain ⟨g2, hg2, y0, y1, y2, y3, y4, y5, y6, y7, y8, y9⟩ := ent_cells2 (MO.out.no f14) he
            have hne : ∀ W, (binOp .neq 73 (.agg #[.int .u8 (a.toNat : Int), .int .u8 (b.toNat : Int), .int .u8 (c.toNat : Int), .int .u8 (d.toNat : Int), .int .u8 (e.toNat : Int), .int .u8 (f.toNat : Int), .bool tu, .int .i64 pn, .int .u64 at_, .bool st]) (.agg #[.int .u8 (a.toNat : Int), .int .u8 (b.toNat : Int), .int .u8 (c.toNat : Int), .int .u8 (d.toNat : Int), .int .u8 (e.toNat : Int), .int .u8 (f.toNat : Int), .bool tu, .int .i64 pn, .int .u64 at_, .bool st])).run Try.prog W = .ok (.bool false) W := fun W => neqE_self ⟨⟨a, b, c, d, e, f⟩, tu, pn, at_, st⟩ W
            have k1 : (k : Int) < (ln : Int) := by omega
            have k0 : (0 : Int) ≤ (k : Int) := by omega
            subst hg1
            subst hg2
            clear he f14
            go_wp2_with fail
            go_quiet (fail)
            go_wp2_with fail
            go_roundw
            case rel => exact ⟨k + 1, by omega, by go_num, F14.out.drewN _⟩
            case measure => simp [intOf]; omega
          · have hkl2 : k = ln := by omega
            clear hkl2 f14
            go_wp2_with fail
            go_roundw
            case rel => exact ⟨s + 1, by omega, by go_num, G14.out⟩
            case measure => simp [intOf]; omega
      · go_wp2_with fail
        go_ret
        exact ⟨rfl, F4.out.trans G5.out⟩
end Go.Proofs.Yticebdoiahadoaa

/- BridgeFloods. -/
import Derived.Test.YticebdoiahadoaaBl5
namespace Go.Proofs.Yticebdoiahadoaa
open Go.RowKit
set_option linter.unusedVariables false
set_option linter.unusedSimpArgs false

theorem macOf_a (bs : List UInt8) : (macOf bs 0).a = bs.getD 0 0 := rfl
set_option maxRecDepth 100000 in
set_option maxHeartbeats 8000000 in
theorem BridgeFloods_walk {w : World} (room : Int) {life : Int} (hl0 : 0 ≤ life) (hl1 : life < 18446744073709551616) {ao : Option Addr} {n cap : Nat} {xs : List St16} (hs : Rs16 w ao n cap xs) :
    Calls Try.prog 5 #[.int .i64 room, .int .u64 life, .slice ao n cap] w fun e w' => e = .returned (.bool true) ∧ Fr No w w' := by
  have HS := Lib.hid hs
  have HN := Lib.hid hs.1
  have hle := hs.2.1
  have hcap := hs.2.2.1
  clear hs
  go_enter Try.func5, Try.ntmps5
  go_wp2_with fail
  refine (l16shown_any w).mono ?_
  rintro e w1 ⟨rfl, f1⟩
  go_wp2_with fail
  obtain ⟨rm, hrm⟩ : ∃ rm, min (max room 1) 64 = rm := ⟨_, rfl⟩
  refine (bgNew_z w1 room life hl0 hl1 hrm).mono ?_
  rintro e w2 ⟨bb, rfl, h2, f2⟩
  have H := Lib.hid (h2.less (Z' := fun k => k < w.heap.size) (fun k hk => Nat.lt_of_lt_of_le hk f1.size))
  have FF := Lib.hid (f1.trans f2)
  clear h2 f1 f2 hrm
  go_wp2_with fail
  go_loopw [9, 10] (fun t9 t10 wr => ∃ (k : Nat) (nw : Int) (X : AB), k ≤ n ∧ k ≤ 200 ∧ t10 = .int .i64 k ∧ t9 = .int .u64 nw ∧ 0 ≤ nw ∧ nw ≤ 255 * (k : Int) ∧ BrZ (fun k => k < w.heap.size) wr bb rm life X ∧ Fr No w wr) (fun _ t10 _ => n - (intOf t10).toNat)
  case atStart => exact ⟨0, 0, AB.new, by omega, by omega, rfl, rfl, by omega, by omega, H.out, FF.out⟩
  case round =>
    clear H FF
    obtain ⟨k, nw, X, hk, hk2, rfl, rfl, hw0, hw1, h4, f4⟩ := hrel
    have H4 := Lib.hid h4
    have F4 := Lib.hid f4
    clear h4 f4
    by_cases hlt : k < n ∧ k < 200
    · obtain ⟨l1, l2⟩ := hlt
      obtain ⟨x, hx⟩ : ∃ x, xs[k]? = some x := ⟨xs[k]'(by rw [← HN.out]; exact l1), List.getElem?_eq_getElem _⟩
      have HXO := Lib.hid (HS.out.2.2.2.2.2 x (List.mem_of_getElem? hx))
      cases ao with
      | none => exfalso; have := HS.out.2.2.2.1 rfl; omega
      | some a =>
        obtain ⟨bo, bcap, c0, c1, c2, c3, c4, hbx⟩ := HS.out.2.2.2.2.1 a rfl k x hx
        have c0 := F4.out.cell c0 (fun h => h)
        have c1 := F4.out.cell c1 (fun h => h)
        have c2 := F4.out.cell c2 (fun h => h)
        have c3 := F4.out.cell c3 (fun h => h)
        have c4 := F4.out.cell c4 (fun h => h)
        have hsp : (a.add (k * 5)).spot = none := World.cell?_spot c0
        obtain ⟨⟨ab, aoff, asp⟩, ha⟩ : ∃ b, a.add (k * 5) = b := ⟨_, rfl⟩
        rw [ha] at c0 c1 c2 c3 c4 hsp
        simp only at hsp c0 c1 c2 c3 c4
        subst hsp
        have HBX := Lib.hid hbx
        have by0 : (x.by_.toNat : Int) < 256 := by have := x.by_.toNat_lt; omega
        have by1 : (0 : Int) ≤ (x.by_.toNat : Int) := by omega
        obtain ⟨bl, hbl⟩ : ∃ m, x.b.length = m := ⟨_, rfl⟩
        have HBL := Lib.hid hbl
        rw [hbl] at c3
        clear hx hbx hbl
        go_wp2_with fail
        have fX := (Fr.refl No wr).alloc (.cells #[.int .i64 x.kind, .int .i64 x.n, .int .i64 x.s, .slice bo bl bcap, .int .u8 (x.by_.toNat : Int)] 31)
        have hrow := heap_alloc_new wr (.cells #[.int .i64 x.kind, .int .i64 x.n, .int .i64 x.s, .slice bo bl bcap, .int .u8 (x.by_.toNat : Int)] 31)
        obtain ⟨Z1, g1, g2, g3⟩ := H4.out.one (.cells #[.int .i64 x.kind, .int .i64 x.n, .int .i64 x.s, .slice bo bl bcap, .int .u8 (x.by_.toNat : Int)] 31)
        have FX := Lib.hid (F4.out.trans fX)
        have HG := Lib.hid H4.out.good
        obtain ⟨r, hr⟩ : ∃ r, aDoes rm life X x (nw + (x.by_.toNat : Int)) = r := ⟨_, rfl⟩
        have HR := Lib.hid (does_floods H4.out.good hr)
        generalize World.alloc _ _ = wa at hrow g1 FX ⊢
        generalize wr.heap.size = bx at hrow g3 ⊢
        have HROW := Lib.hid hrow
        have G1 := Lib.hid g1
        have G2 := Lib.hid g2
        have G3 := Lib.hid g3
        have HRR := Lib.hid hr
        clear fX hrow g1 g2 g3 hr c0 c1 c2 c3 c4 H4 F4
        have CA := l16does_z G1.out x HXO.out (HBX.out.no FX.out) (now := nw + (x.by_.toNat : Int)) (by omega) (by omega) HRR.out
        rw [HBL.out] at CA
        refine CA.mono ?_
        clear CA
        rintro e w5 ⟨po, pc, qo, qc, rfl, cp, cq, h5, f5⟩
        obtain ⟨⟨rps, rqs, rf⟩, rs, rX⟩ := r
        dsimp only at cp cq h5 HR ⊢
        have F5 := Lib.hid (FX.out.then f5 (fun i hi h => h (G2.out i hi)))
        have R5 := Lib.hid (f5.heap HROW.out (fun h => h G3.out))
        have H5 := Lib.hid (h5.less (Z' := fun k => k < w.heap.size) (fun k hk => .inl (G2.out k hk)))
        have fo := (Fr.refl No w5).alloc (.cells #[.slice po rps.length pc, .slice qo rqs.length qc, .bool rf] 34)
        have ho := heap_alloc_new w5 (.cells #[.slice po rps.length pc, .slice qo rqs.length qc, .bool rf] 34)
        have F6 := Lib.hid (F5.out.trans fo)
        have H6 := Lib.hid (H5.out.no fo)
        have R6 := Lib.hid (fo.heap R5.out (fun h => h))
        have O6 := Lib.hid ho
        clear h5 f5 G1 G2 G3 HROW FX HRR fo ho H5 F5 R5 cp cq
        rcases HR.out with hm | hfl
        · subst hm
          clear HR O6 R6
          go_wp2_with fail
          go_roundw
          case rel => exact ⟨k + 1, nw + (x.by_.toNat : Int), rX, by omega, by omega, by go_num, rfl, by omega, by omega, H6.out, F6.out⟩
          case measure => simp [intOf]; omega
        · obtain ⟨hsg, h14, hgrp, hfl⟩ := hfl
          dsimp only at hsg hgrp hfl
          have HSG := Lib.hid hsg
          have n0 : ¬ rs < 0 := by have := hsg.1; omega
          cases bo with
          | none => exfalso; have h1 := HBX.out.2.nocap rfl; have h2 := HBX.out.2.le; omega
          | some ba =>
            have hbs := bs_spot HBX.out (by omega)
            obtain ⟨bab, baf, bas⟩ := ba
            simp only at hbs
            subst hbs
            have cb := bs_cells (HBX.out.no F6.out) rfl 0 (by omega)
            obtain ⟨v, hv⟩ : ∃ v, x.b.getD 0 0 = v := ⟨_, rfl⟩
            rw [hv] at cb
            unfold byteV at cb
            simp only [Nat.add_zero] at cb
            have hgb := grp_bits v
            have hgm : grpM (macOf x.b 0) = decide (v.toNat % 2 = 1) := by rw [← hv]; rfl
            rw [hgm] at hgrp
            have hb0 : (0 : Int) < (bl : Int) := by have := HBL.out; omega
            have HFL := Lib.hid hfl
            have HGR := Lib.hid hgrp
            have hpl : (rX.at rs).ps.length ≤ 16 := H6.out.good.pl hsg
            have hql : (rX.at rs).qs.length ≤ 8 := H6.out.good.ql rs hsg
            generalize decide (v.toNat % 2 = 1) = gb at hgb HGR
            clear hgm hgrp hfl hsg hv HR h14
            obtain ⟨e0, e1, e2, e3, e4⟩ := cells5s R6.out
            go_wp2_with fail
            clear e0 e1 e2 e3 e4 cb
            generalize World.alloc _ _ = w6 at O6 F6 H6 R6 ⊢
            generalize w5.heap.size = ox at O6 ⊢
            refine (bgPorts_z H6.out HSG.out).mono ?_
            rintro e w7 ⟨ap, cp7, rfl, o7, f7, -⟩
            have H7 := Lib.hid (H6.out.no f7)
            have F7 := Lib.hid (F6.out.trans f7)
            have R7 := Lib.hid (f7.heap R6.out (fun h => h))
            have O7 := Lib.hid (f7.heap O6.out (fun h => h))
            clear o7 f7 H6 F6 R6 O6
            go_wp2_with fail
            refine (bgPeers_z H7.out HSG.out).mono ?_
            rintro e w8 ⟨aq, cq8, rfl, o8, f8, -⟩
            have H8 := Lib.hid (H7.out.no f8)
            have F8 := Lib.hid (F7.out.trans f8)
            have R8 := Lib.hid (f8.heap R7.out (fun h => h))
            have O8 := Lib.hid (f8.heap O7.out (fun h => h))
            clear o8 f8 H7 F7 R7 O7
            obtain ⟨e0, e1, e2, e3, e4⟩ := cells5s R8.out
            obtain ⟨s0, s1, s2⟩ := cells3 O8.out
            obtain ⟨lp, hlp⟩ : ∃ m, (rX.at rs).ps.length = m := ⟨_, rfl⟩
            obtain ⟨lq, hlq⟩ : ∃ m, (rX.at rs).qs.length = m := ⟨_, rfl⟩
            rw [hlp] at hpl
            rw [hlq] at hql
            rw [hlp, hlq] at HFL ⊢
            clear hlp hlq e1 e2 e3 e4
            by_cases hk7 : x.kind ≤ 7
            · have HFL := Lib.hid (fun h => by have := HFL.out h; rwa [if_pos hk7, if_pos hk7] at this : rf = true → (rps.length : Int) = (lp : Int) - 1 ∧ (rqs.length : Int) = (lq : Int))
              cases rf with
              | true =>
                obtain ⟨q1, q2⟩ := HFL.out rfl
                have q1' : ((rps.length : Int) != (lp : Int) - 1) = false := by simp [q1]
                have q2' : ((rqs.length : Int) != (lq : Int)) = false := by simp [q2]
                clear q1 q2 HFL HGR
                cases gb
                all_goals
                  go_wp2_with fail
                  go_roundw
                  case rel => exact ⟨k + 1, nw + (x.by_.toNat : Int), rX, by omega, by omega, by go_num, rfl, by omega, by omega, H8.out, F8.out⟩
                  case measure => simp [intOf]; omega
              | false =>
                have hgf : gb = false := by cases gb with | false => rfl | true => have := HGR.out rfl; cases this
                subst hgf
                clear HFL HGR
                go_wp2_with fail
                go_roundw
                case rel => exact ⟨k + 1, nw + (x.by_.toNat : Int), rX, by omega, by omega, by go_num, rfl, by omega, by omega, H8.out, F8.out⟩
                case measure => simp [intOf]; omega
            · have HFL := Lib.hid (fun h => by have := HFL.out h; rwa [if_neg hk7, if_neg hk7] at this : rf = true → (rps.length : Int) = (lp : Int) ∧ (rqs.length : Int) = 0)
              cases rf with
              | true =>
                obtain ⟨q1, q2⟩ := HFL.out rfl
                have q1' : ((rps.length : Int) != (lp : Int)) = false := by simp [q1]
                have q2' : ((rqs.length : Int) != 0) = false := by simp [q2]
                clear q1 q2 HFL HGR
                cases gb
                all_goals
                  go_wp2_with fail
                  go_roundw
                  case rel => exact ⟨k + 1, nw + (x.by_.toNat : Int), rX, by omega, by omega, by go_num, rfl, by omega, by omega, H8.out, F8.out⟩
                  case measure => simp [intOf]; omega
              | false =>
                have hgf : gb = false := by cases gb with | false => rfl | true => have := HGR.out rfl; cases this
                subst hgf
                clear HFL HGR
                go_wp2_with fail
                go_roundw
                case rel => exact ⟨k + 1, nw + (x.by_.toNat : Int), rX, by omega, by omega, by go_num, rfl, by omega, by omega, H8.out, F8.out⟩
                case measure => simp [intOf]; omega
    · have hst : ¬ k < n ∨ (k < n ∧ ¬ k < 200) := by omega
      rcases hst with l1 | ⟨l1, l2⟩
      all_goals
        go_wp2_with fail
        go_ret
        exact ⟨rfl, F4.out⟩
end Go.Proofs.Yticebdoiahadoaa

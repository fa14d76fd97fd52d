/- BridgeStays. -/
import Derived.Test.YticebdoiahadoaaBl6
namespace Go.Proofs.Yticebdoiahadoaa
open Go.RowKit
set_option linter.unusedVariables false
set_option linter.unusedSimpArgs false

theorem OI.cellAt {w : World} {ao : Option Addr} {n c : Nat} {zs : List Int} (h : OI w ao n c zs) {j : Nat} {z : Int} (hz : zs[j]? = some z) : ∃ g, ao = some ⟨g, 0, none⟩ ∧ w.cell? ⟨g, j, none⟩ = some (.int .i64 z) := by
  cases ao with
  | none =>
    have h1 := h.2.nocap rfl
    have h2 := h.2.le
    have h3 := h.1
    have := (List.getElem?_eq_some_iff.1 hz).1
    omega
  | some a =>
    obtain ⟨h1, -⟩ := h.2.row a rfl
    have h2 := h.sl.2.cell a rfl j (.int .i64 z) (by rw [List.getElem?_map, hz]; rfl)
    obtain ⟨b, o, sp⟩ := a
    cases h1
    exact ⟨b, rfl, by rw [Addr.add_lit] at h2; simpa using h2⟩
set_option maxRecDepth 100000 in
set_option maxHeartbeats 8000000 in
theorem BridgeStays_walk {w : World} (room : Int) {life : Int} (hl0 : 0 ≤ life) (hl1 : life < 18446744073709551616) {ao : Option Addr} {n cap : Nat} {xs : List St16} (hs : Rs16 w ao n cap xs) :
    Calls Try.prog 4 #[.int .i64 room, .int .u64 life, .slice ao n cap] w fun e w' => e = .returned (.bool true) ∧ Fr No w w' := by
  have HS := Lib.hid hs
  have HN := Lib.hid hs.1
  have hle := hs.2.1
  have hcap := hs.2.2.1
  clear hs
  go_enter Try.func4, Try.ntmps4
  go_wp2_with fail
  refine (l16shown_any w).mono ?_
  rintro e w1 ⟨rfl, f1⟩
  go_wp2_with fail
  obtain ⟨rm, hrm⟩ : ∃ rm, min (max room 1) 64 = rm := ⟨_, rfl⟩
  refine (bgNew_z w1 room life hl0 hl1 hrm).mono ?_
  rintro e w2 ⟨bb, rfl, h2, f2⟩
  have H := Lib.hid (h2.less (Z' := fun k => k < w.heap.size) (fun k hk => Nat.lt_of_lt_of_le hk f1.size))
  have FF := Lib.hid (f1.trans f2)
  clear h2 f1 f2 hrm
  go_wp2_with fail
  go_loopw [9, 10] (fun t9 t10 wr => ∃ (k : Nat) (nw : Int) (X : AB), k ≤ n ∧ k ≤ 200 ∧ t10 = .int .i64 k ∧ t9 = .int .u64 nw ∧ 0 ≤ nw ∧ nw ≤ 255 * (k : Int) ∧ BrZ (fun k => k < w.heap.size) wr bb rm life X ∧ Stl X ∧ Fr No w wr) (fun _ t10 _ => n - (intOf t10).toNat)
  case atStart => exact ⟨0, 0, AB.new, by omega, by omega, rfl, rfl, by omega, by omega, H.out, Stl.new, FF.out⟩
  case round =>
    clear H FF
    obtain ⟨k, nw, X, hk, hk2, rfl, rfl, hw0, hw1, h4, st4, f4⟩ := hrel
    have ST4 := Lib.hid st4
    clear st4
    have H4 := Lib.hid h4
    have F4 := Lib.hid f4
    clear h4 f4
    by_cases hlt : k < n ∧ k < 200
    · obtain ⟨l1, l2⟩ := hlt
      obtain ⟨x, hx⟩ : ∃ x, xs[k]? = some x := ⟨xs[k]'(by rw [← HN.out]; exact l1), List.getElem?_eq_getElem _⟩
      have HXO := Lib.hid (HS.out.2.2.2.2.2 x (List.mem_of_getElem? hx))
      cases ao with
      | none => exfalso; have := HS.out.2.2.2.1 rfl; omega
      | some a =>
        obtain ⟨bo, bcap, c0, c1, c2, c3, c4, hbx⟩ := HS.out.2.2.2.2.1 a rfl k x hx
        have c0 := F4.out.cell c0 (fun h => h)
        have c1 := F4.out.cell c1 (fun h => h)
        have c2 := F4.out.cell c2 (fun h => h)
        have c3 := F4.out.cell c3 (fun h => h)
        have c4 := F4.out.cell c4 (fun h => h)
        have hsp : (a.add (k * 5)).spot = none := World.cell?_spot c0
        obtain ⟨⟨ab, aoff, asp⟩, ha⟩ : ∃ b, a.add (k * 5) = b := ⟨_, rfl⟩
        rw [ha] at c0 c1 c2 c3 c4 hsp
        simp only at hsp c0 c1 c2 c3 c4
        subst hsp
        have HBX := Lib.hid hbx
        have by0 : (x.by_.toNat : Int) < 256 := by have := x.by_.toNat_lt; omega
        have by1 : (0 : Int) ≤ (x.by_.toNat : Int) := by omega
        obtain ⟨bl, hbl⟩ : ∃ m, x.b.length = m := ⟨_, rfl⟩
        have HBL := Lib.hid hbl
        rw [hbl] at c3
        clear hx hbx hbl
        go_wp2_with fail
        have fX := (Fr.refl No wr).alloc (.cells #[.int .i64 x.kind, .int .i64 x.n, .int .i64 x.s, .slice bo bl bcap, .int .u8 (x.by_.toNat : Int)] 31)
        have hrow := heap_alloc_new wr (.cells #[.int .i64 x.kind, .int .i64 x.n, .int .i64 x.s, .slice bo bl bcap, .int .u8 (x.by_.toNat : Int)] 31)
        obtain ⟨Z1, g1, g2, g3⟩ := H4.out.one (.cells #[.int .i64 x.kind, .int .i64 x.n, .int .i64 x.s, .slice bo bl bcap, .int .u8 (x.by_.toNat : Int)] 31)
        have FX := Lib.hid (F4.out.trans fX)
        have HG := Lib.hid H4.out.good
        obtain ⟨r, hr⟩ : ∃ r, aDoes rm life X x (nw + (x.by_.toNat : Int)) = r := ⟨_, rfl⟩
        have HR := Lib.hid (does_stays H4.out.good ST4.out hr)
        have ST5 := Lib.hid (show Stl r.2.2 by rw [← hr]; exact Stl.does H4.out.good ST4.out _ _ _ _)
        generalize World.alloc _ _ = wa at hrow g1 FX ⊢
        generalize wr.heap.size = bx at hrow g3 ⊢
        have HROW := Lib.hid hrow
        have G1 := Lib.hid g1
        have G2 := Lib.hid g2
        have G3 := Lib.hid g3
        have HRR := Lib.hid hr
        clear fX hrow g1 g2 g3 hr c0 c1 c2 c3 c4 H4 F4
        have CA := l16does_z G1.out x HXO.out (HBX.out.no FX.out) (now := nw + (x.by_.toNat : Int)) (by omega) (by omega) HRR.out
        rw [HBL.out] at CA
        refine CA.mono ?_
        clear CA
        rintro e w5 ⟨po, pc, qo, qc, rfl, cp, cq, h5, f5⟩
        obtain ⟨⟨rps, rqs, rf⟩, rs, rX⟩ := r
        dsimp only at cp cq h5 HR ST5 ⊢
        have CP := Lib.hid cp
        have CQ := Lib.hid cq
        have F5 := Lib.hid (FX.out.then f5 (fun i hi h => h (G2.out i hi)))
        have R5 := Lib.hid (f5.heap HROW.out (fun h => h G3.out))
        have H5 := Lib.hid (h5.less (Z' := fun k => k < w.heap.size) (fun k hk => .inl (G2.out k hk)))
        have fo := (Fr.refl No w5).alloc (.cells #[.slice po rps.length pc, .slice qo rqs.length qc, .bool rf] 34)
        have ho := heap_alloc_new w5 (.cells #[.slice po rps.length pc, .slice qo rqs.length qc, .bool rf] 34)
        have F6 := Lib.hid (F5.out.trans fo)
        have H6 := Lib.hid (H5.out.no fo)
        have R6 := Lib.hid (fo.heap R5.out (fun h => h))
        have O6 := Lib.hid ho
        clear h5 f5 G1 G2 G3 HROW FX HRR fo ho H5 F5 R5 cp cq
        rcases HR.out with hm | hfl
        · subst hm
          clear HR O6 R6
          go_wp2_with fail
          go_roundw
          case rel => exact ⟨k + 1, nw + (x.by_.toNat : Int), rX, by omega, by omega, by go_num, rfl, by omega, by omega, H6.out, ST5.out, F6.out⟩
          case measure => simp [intOf]; omega
        · obtain ⟨hsg, hr1, hp1, hr2, hq1, hone⟩ := hfl
          dsimp only at hsg hr1 hp1 hr2 hq1 hone
          have HSG := Lib.hid hsg
          have HR1 := Lib.hid hr1
          have HP1 := Lib.hid hp1
          have HR2 := Lib.hid hr2
          have HQ1 := Lib.hid hq1
          have HONE := Lib.hid hone
          have n0 : ¬ rs < 0 := by have := hsg.1; omega
          have CP6 := Lib.hid (CP.out.no ((Fr.refl No w5).alloc (.cells #[.slice po rps.length pc, .slice qo rqs.length qc, .bool rf] 34)))
          have CQ6 := Lib.hid (CQ.out.no ((Fr.refl No w5).alloc (.cells #[.slice po rps.length pc, .slice qo rqs.length qc, .bool rf] 34)))
          clear hsg hr1 hp1 hr2 hq1 hone HR CP CQ
          obtain ⟨np, hnp⟩ : ∃ m, rps.length = m := ⟨_, rfl⟩
          obtain ⟨nq, hnq⟩ : ∃ m, rqs.length = m := ⟨_, rfl⟩
          have HNP := Lib.hid hnp
          have HNQ := Lib.hid hnq
          simp only [hnp, hnq] at CP6 CQ6 O6 F6 H6 R6 ⊢
          clear hnp hnq
          have hcp1 := CP6.out.2.le
          have hcp2 := CP6.out.2.capLe
          have hcq1 := CQ6.out.2.le
          have hcq2 := CQ6.out.2.capLe
          go_wp2_with fail
          generalize World.alloc _ _ = w6 at O6 F6 H6 R6 CP6 CQ6 ⊢
          generalize w5.heap.size = ox at O6 ⊢
          go_loopw [14] (fun t14 wr2 => ∃ j : Nat, j ≤ np ∧ t14 = .int .i64 j ∧ Fr No w6 wr2) (fun t14 _ => np - (intOf t14).toNat)
          case atStart => exact ⟨0, by omega, rfl, Fr.refl _ _⟩
          case round =>
            obtain ⟨j, hj, rfl, f7⟩ := hrel
            have H7 := Lib.hid (H6.out.no f7)
            have R7 := Lib.hid (f7.heap R6.out (fun h => h))
            have O7 := Lib.hid (f7.heap O6.out (fun h => h))
            have CP7 := Lib.hid (CP6.out.no f7)
            have F7 := Lib.hid f7
            clear f7
            obtain ⟨s0, s1, s2⟩ := cells3 O7.out
            by_cases hjn : j < np
            · obtain ⟨p, hp⟩ : ∃ p, rps[j]? = some p := ⟨rps[j]'(by rw [HNP.out]; exact hjn), List.getElem?_eq_getElem _⟩
              have HPJ := Lib.hid hp
              obtain ⟨g, rfl, cj⟩ := CP7.out.cellAt hp
              have hmem := HP1.out p (List.mem_of_getElem? hp)
              have HMEM := Lib.hid hmem
              clear hp hmem
              go_wp2_with fail
              have hbk := H7.out.good.bk p rs HMEM.out.1
              refine (bgSegment_z H7.out (p := p) ⟨by omega, by omega⟩ (i := rs) (b := true) (by rw [HMEM.out.1]; rfl) (by rw [HMEM.out.1]; rfl)).mono ?_
              rintro e w8 ⟨rfl, f8⟩
              have F8 := Lib.hid (F7.out.trans f8)
              obtain ⟨s0, s1, s2⟩ := cells3 (f8.heap O7.out (fun h => h))
              obtain ⟨e0, e1, e2, e3, e4⟩ := cells5s (f8.heap R7.out (fun h => h))
              have cj := f8.cell cj (fun h => h)
              have jn : (j : Int) < (np : Int) := by omega
              have CP8 := Lib.hid (CP7.out.no f8)
              clear f8 H7 R7 O7 CP7 F7 e2 e3 e4 hbk
              have hkp : (decide (x.kind ≤ 7) = true ∧ (p == x.n) = false) ∨ decide (x.kind ≤ 7) = false := by
                by_cases hk7 : x.kind ≤ 7
                · exact .inl ⟨decide_eq_true hk7, by simpa using HMEM.out.2 hk7⟩
                · exact .inr (decide_eq_false hk7)
              have hss : (rs != rs) = false := by simp
              have hjj : (decide ((0 : Int) < (j : Int)) = false ∧ decide (0 < j) = false) ∨ ∃ (i : Nat) (q : Int), decide (0 < j) = true ∧ IntKind.i64.wrap ((j : Int) - 1) = (i : Int) ∧ decide ((0 : Int) < (j : Int)) = true ∧ (0 : Int) ≤ (i : Int) ∧ (i : Int) < (np : Int) ∧ w8.cell? ⟨g, i, none⟩ = some (.int .i64 q) ∧ decide (p ≤ q) = false := by
                by_cases hj0 : j = 0
                · exact .inl ⟨decide_eq_false (by omega), decide_eq_false (by omega)⟩
                · right
                  have hi : j - 1 < rps.length := by rw [HNP.out]; omega
                  have hcp1 := CP8.out.2.le
                  have hcp2 := CP8.out.2.capLe
                  obtain ⟨g2, hg2, c2⟩ := CP8.out.cellAt (j := j - 1) (List.getElem?_eq_getElem hi)
                  cases hg2
                  have hlt := List.pairwise_iff_getElem.1 HR1.out (j - 1) j hi (by rw [HNP.out]; exact hjn) (by omega)
                  have hpj : rps[j]'(by rw [HNP.out]; exact hjn) = p := by have := HPJ.out; rw [List.getElem?_eq_getElem (by rw [HNP.out]; exact hjn)] at this; exact Option.some.inj this
                  rw [hpj] at hlt
                  exact ⟨j - 1, _, decide_eq_true (by omega), by rw [IntKind.wrap_i64]; omega, decide_eq_true (by omega), by omega, by omega, c2, decide_eq_false (by omega)⟩
              rcases hkp with ⟨hk1, hk2⟩ | hk1
              all_goals
                rcases hjj with ⟨hj1, hjn1⟩ | ⟨i, q, hjn1, hij, hj1, hj2, hj3, ci, hpq⟩
                all_goals
                  go_wp2_with fail
                  go_quiet (fail)
                  clear hss
                  generalize hw9 : World.drewN _ _ = w9
                  have F9 := Lib.hid (show Fr No w6 w9 by rw [← hw9]; exact F8.out.drewN _)
                  clear hw9 s0 s1 s2 e0 e1 cj
                  first | clear ci | skip
                  go_wp2_with fail
                  go_roundw
                  case rel => exact ⟨j + 1, by omega, by go_num, F9.out⟩
                  case measure => simp [intOf]; omega
            · obtain rfl : j = np := by omega
              have CQ7 := Lib.hid (CQ6.out.no F7.out)
              clear CP7
              go_wp2_with fail
              refine (bgPeers_z H7.out HSG.out).mono ?_
              rintro e w8 ⟨aq, cq8, rfl, o8, f8, -⟩
              have H8 := Lib.hid (H7.out.no f8)
              have F8 := Lib.hid ((F6.out.trans F7.out).trans f8)
              have R8 := Lib.hid (f8.heap R7.out (fun h => h))
              have O8 := Lib.hid (f8.heap O7.out (fun h => h))
              have CQ8 := Lib.hid (CQ7.out.no f8)
              have PQ8 := Lib.hid o8
              clear o8 f8 H7 R7 O7 CQ7 F7 s0 s1 s2
              have hql := H8.out.good.ql rs HSG.out
              obtain ⟨lq, hlq⟩ : ∃ m, (rX.at rs).qs.length = m := ⟨_, rfl⟩
              have HLQ := Lib.hid hlq
              rw [hlq] at hql ⊢
              have PQ8 : Hid (OI w8 aq lq cq8 (rX.at rs).qs) := Lib.hid (by rw [← hlq]; exact PQ8.out)
              clear hlq
              go_wp2_with fail
              go_loopw [18] (fun t18 wr2 => ∃ k2 : Nat, k2 ≤ nq ∧ t18 = .int .i64 k2 ∧ Fr No w8 wr2) (fun t18 _ => nq - (intOf t18).toNat)
              case atStart => exact ⟨0, by omega, rfl, Fr.refl _ _⟩
              case round =>
                obtain ⟨k2, hk2n, rfl, f9⟩ := hrel
                have F9 := Lib.hid (F8.out.trans f9)
                have R9 := Lib.hid (f9.heap R8.out (fun h => h))
                have O9 := Lib.hid (f9.heap O8.out (fun h => h))
                have CQ9 := Lib.hid (CQ8.out.no f9)
                have PQ9 := Lib.hid (PQ8.out.no f9)
                have H9 := Lib.hid (H8.out.no f9)
                have G9 := Lib.hid f9
                clear f9
                obtain ⟨s0, s1, s2⟩ := cells3 O9.out
                by_cases hkn : k2 < nq
                · obtain ⟨t, ht⟩ : ∃ t, rqs[k2]? = some t := ⟨rqs[k2]'(by rw [HNQ.out]; exact hkn), List.getElem?_eq_getElem _⟩
                  have HTJ := Lib.hid ht
                  obtain ⟨tm, tk⟩ := HQ1.out t (List.mem_of_getElem? ht)
                  have TM := Lib.hid tm
                  obtain ⟨gq, hgq, ct⟩ := CQ9.out.cellAt ht
                  cases hgq
                  have kn1 : (k2 : Int) < (nq : Int) := by omega
                  have kn0 : (0 : Int) ≤ (k2 : Int) := by omega
                  clear ht tm
                  go_wp2_with fail
                  go_loopw [19, 20] (fun t19 t20 wr3 => ∃ (j : Nat) (b : Bool), j ≤ lq ∧ t20 = .int .i64 j ∧ t19 = .bool b ∧ (b = true ↔ t ∈ (rX.at rs).qs.take j) ∧ Fr No wr wr3) (fun _ t20 _ => lq - (intOf t20).toNat)
                  case atStart => exact ⟨0, false, by omega, rfl, rfl, by simp, Fr.refl _ _⟩
                  case round =>
                    obtain ⟨j, b, hj, rfl, rfl, hb, f10⟩ := hrel
                    have HBT := Lib.hid hb
                    have F10 := Lib.hid f10
                    have PQ10 := Lib.hid (PQ9.out.no f10)
                    obtain ⟨s0, s1, s2⟩ := cells3 (f10.heap O9.out (fun h => h))
                    obtain ⟨e0, e1, e2, e3, e4⟩ := cells5s (f10.heap R9.out (fun h => h))
                    have ct10 := f10.cell ct (fun h => h)
                    clear hb f10 ct e1 e2 e3 e4
                    by_cases hjl : j < lq
                    · obtain ⟨y, hy⟩ : ∃ y, (rX.at rs).qs[j]? = some y := ⟨(rX.at rs).qs[j]'(by rw [HLQ.out]; exact hjl), List.getElem?_eq_getElem _⟩
                      have HYJ := Lib.hid hy
                      obtain ⟨gy, rfl, cy⟩ := PQ10.out.cellAt hy
                      have jn1 : (j : Int) < (lq : Int) := by omega
                      have jn0 : (0 : Int) ≤ (j : Int) := by omega
                      clear hy
                      have HTK : Hid ((rX.at rs).qs.take (j + 1) = (rX.at rs).qs.take j ++ [y]) := Lib.hid (by rw [List.take_add_one, HYJ.out]; rfl)
                      cases b with
                      | true =>
                        go_wp2_with fail
                        go_quiet (fail)
                        go_wp2_with fail
                        go_roundw
                        case rel => exact ⟨j + 1, true, by omega, by go_num, rfl, by rw [HTK.out, List.mem_append]; exact ⟨fun _ => .inl (HBT.out.1 (by simp)), fun _ => by simp⟩, F10.out.drewN _⟩
                        case measure => simp [intOf]; omega
                      | false =>
                        obtain ⟨q, hq⟩ : ∃ q, (y == t) = q := ⟨_, rfl⟩
                        have HQQ := Lib.hid hq
                        go_wp2_with fail
                        go_quiet (fail)
                        clear hq
                        go_wp2_with fail
                        go_roundw
                        case rel =>
                          refine ⟨j + 1, q, by omega, by go_num, rfl, ?_, F10.out.drewN _⟩
                          rw [HTK.out, List.mem_append, List.mem_singleton, ← HQQ.out]
                          constructor
                          · intro h; exact .inr (by simpa using h : y = t).symm
                          · rintro (h | h)
                            · exact absurd (HBT.out.2 h) (by simp)
                            · simp [h]
                        case measure => simp [intOf]; omega
                    · have hjl2 : j = lq := by omega
                      have hbt : b = true := HBT.out.2 (by rw [List.take_of_length_le (by have := HLQ.out; omega)]; exact TM.out)
                      subst hbt
                      have hk8 : decide (8 ≤ x.kind) = false := decide_eq_false (by omega)
                      clear hjl2
                      have hjj : (decide ((0 : Int) < (k2 : Int)) = false ∧ decide (0 < k2) = false) ∨ ∃ (i : Nat) (q : Int), decide (0 < k2) = true ∧ IntKind.i64.wrap ((k2 : Int) - 1) = (i : Int) ∧ decide ((0 : Int) < (k2 : Int)) = true ∧ (0 : Int) ≤ (i : Int) ∧ (i : Int) < (nq : Int) ∧ wr.cell? ⟨gq, i, none⟩ = some (.int .i64 q) ∧ decide (t ≤ q) = false := by
                        by_cases hj0 : k2 = 0
                        · exact .inl ⟨decide_eq_false (by omega), decide_eq_false (by omega)⟩
                        · right
                          have hi : k2 - 1 < rqs.length := by rw [HNQ.out]; omega
                          have hcp1 := CQ9.out.2.le
                          have hcp2 := CQ9.out.2.capLe
                          obtain ⟨g2, hg2, c2⟩ := (CQ9.out.no F10.out).cellAt (j := k2 - 1) (List.getElem?_eq_getElem hi)
                          cases hg2
                          have hlt := List.pairwise_iff_getElem.1 HR2.out (k2 - 1) k2 hi (by rw [HNQ.out]; exact hkn) (by omega)
                          have hpj : rqs[k2]'(by rw [HNQ.out]; exact hkn) = t := by have := HTJ.out; rw [List.getElem?_eq_getElem (by rw [HNQ.out]; exact hkn)] at this; exact Option.some.inj this
                          rw [hpj] at hlt
                          exact ⟨k2 - 1, _, decide_eq_true (by omega), by rw [IntKind.wrap_i64]; omega, decide_eq_true (by omega), by omega, by omega, c2, decide_eq_false (by omega)⟩
                      rcases hjj with ⟨hj1, hjn1⟩ | ⟨i, q, hjn1, hij, hj1, hj2, hj3, ci, hpq⟩
                      all_goals
                        go_wp2_with fail
                        go_quiet (fail)
                        go_wp2_with fail
                        go_roundw
                        case rel => exact ⟨k2 + 1, by omega, by go_num, (G9.out.trans F10.out).drewN _⟩
                        case measure => simp [intOf]; omega
                · obtain rfl : k2 = nq := by omega
                  cases rf with
                  | true =>
                    go_wp2_with fail
                    go_roundw
                    case rel => exact ⟨k + 1, nw + (x.by_.toNat : Int), rX, by omega, by omega, by go_num, rfl, by omega, by omega, H9.out, ST5.out, F9.out⟩
                    case measure => simp [intOf]; omega
                  | false =>
                    have hle1 : ¬ 1 < (j : Int) + (k2 : Int) := by have h1 := HONE.out rfl; have h2 := HNP.out; have h3 := HNQ.out; omega
                    go_wp2_with fail
                    go_roundw
                    case rel => exact ⟨k + 1, nw + (x.by_.toNat : Int), rX, by omega, by omega, by go_num, rfl, by omega, by omega, H9.out, ST5.out, F9.out⟩
                    case measure => simp [intOf]; omega
    · have hst : ¬ k < n ∨ (k < n ∧ ¬ k < 200) := by omega
      rcases hst with l1 | ⟨l1, l2⟩
      all_goals
        go_wp2_with fail
        go_ret
        exact ⟨rfl, F4.out⟩
end Go.Proofs.Yticebdoiahadoaa

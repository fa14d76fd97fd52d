/- BridgeLearns. -/
import Derived.Test.YticebdoiahadoaaBl7
import Derived.Deep.DeepCutAuto
import Derived.Deep.CutBlock
namespace Go.Proofs.Yticebdoiahadoaa
open Go.RowKit
set_option linter.unusedVariables false
set_option linter.unusedSimpArgs false

/-- A box made ahead of a call, and written behind it; or made behind it. -/
theorem boxA {w2 wx w3 : World} {c0 c1 : Value} {t : TypeId} (hx : Fr No w2 wx) (f : Fr No (wx.alloc (.cells #[c0, c1] t)) w3) (d0 d1 : Value) :
    ((w3.setCell ⟨wx.heap.size, 0, none⟩ d0).setCell ⟨wx.heap.size, 1, none⟩ d1).heap[wx.heap.size]? = some (.cells #[d0, d1] t (0, 0)) ∧ Fr No w2 ((w3.setCell ⟨wx.heap.size, 0, none⟩ d0).setCell ⟨wx.heap.size, 1, none⟩ d1) ∧ w2.heap.size ≤ wx.heap.size := by
  have h : w3.heap[wx.heap.size]? = some (.cells #[c0, c1] t (0, 0)) := f.heap (heap_alloc_new wx (.cells #[c0, c1] t)) (fun h => h)
  have := set_row (set_row h 0 d0) 1 d1
  exact ⟨by simpa using this, (((hx.alloc (.cells #[c0, c1] t)).trans f).setCell (p := ⟨wx.heap.size, 0, none⟩) (.inr hx.size) _).setCell (p := ⟨wx.heap.size, 1, none⟩) (.inr hx.size) _, hx.size⟩
theorem boxB {w2 w3 : World} {t : TypeId} (f : Fr No w2 w3) (d0 d1 : Value) :
    (w3.alloc (.cells #[d0, d1] t)).heap[w3.heap.size]? = some (.cells #[d0, d1] t (0, 0)) ∧ Fr No w2 (w3.alloc (.cells #[d0, d1] t)) ∧ w2.heap.size ≤ w3.heap.size :=
  ⟨heap_alloc_new w3 (.cells #[d0, d1] t), f.alloc _, f.size⟩
theorem boxC {wx w3 : World} {c0 c1 : Value} {t : TypeId} (f : Fr No (wx.alloc (.cells #[c0, c1] t)) w3) : w3.cell? ⟨wx.heap.size, 0, none⟩ = some c0 ∧ w3.cell? ⟨wx.heap.size, 1, none⟩ = some c1 ∧ w3.frozen? ⟨wx.heap.size, 0, none⟩ = false ∧ w3.frozen? ⟨wx.heap.size, 1, none⟩ = false := by
  have h : w3.heap[wx.heap.size]? = some (.cells #[c0, c1] t (0, 0)) := f.heap (heap_alloc_new wx (.cells #[c0, c1] t)) (fun h => h)
  exact ⟨(cells2 h).1, (cells2 h).2, frozen_of_row w3 wx.heap.size 0 _ t h, frozen_of_row w3 wx.heap.size 1 _ t h⟩
set_option maxRecDepth 100000 in
set_option maxHeartbeats 8000000 in
theorem BridgeLearns_walk {w : World} (room : Int) {life : Int} (hl0 : 0 ≤ life) (hl1 : life < 18446744073709551616) {ao : Option Addr} {n cap : Nat} {xs : List St16} (hs : Rs16 w ao n cap xs) (port other : Int) (hpo : okI port) (hot : okI other) (ofm tom : Mac) :
    Calls Try.prog 3 #[.int .i64 room, .int .u64 life, .slice ao n cap, .int .i64 port, .int .i64 other, evM ofm, evM tom] w fun e w' => e = .returned (.bool true) ∧ Fr No w w' := by
  have HS := Lib.hid hs
  have HN := Lib.hid hs.1
  have HPO := Lib.hid hpo
  have HOT := Lib.hid hot
  have hle := hs.2.1
  have hcap := hs.2.2.1
  clear hs hpo hot
  have hA := ((Fr.refl No _).alloc (.cells (encM tom).toArray 25)).heap (heap_alloc_new w (.cells (encM ofm).toArray 25)) (fun h => h)
  have hB := heap_alloc_new (w.alloc (.cells (encM ofm).toArray 25)) (.cells (encM tom).toArray 25)
  simp only [World.size_alloc] at hB
  have hF := ((Fr.refl No w).alloc (.cells (encM ofm).toArray 25)).alloc (.cells (encM tom).toArray 25)
  obtain ⟨fa, fb, fc, fd, fe, ff⟩ := ofm
  obtain ⟨ta, tb, tc, td, te, tf⟩ := tom
  unfold encM byteV at hA hB hF
  simp only at hA hB hF
  unfold evM byteV
  simp only
  go_enter Try.func3, Try.ntmps3
  go_wp2_with fail
  generalize World.alloc _ _ = w0 at hA hB hF ⊢
  have lt0 := lt_of_heap hA
  have lt1 := lt_of_heap hB
  generalize w.heap.size + 1 = bB at hB lt1 ⊢
  generalize w.heap.size = bA at hA lt0 ⊢
  have HA := Lib.hid hA
  have HB := Lib.hid hB
  have HF := Lib.hid hF
  have LA := Lib.hid lt0
  have LB := Lib.hid lt1
  clear hA hB hF lt0 lt1
  refine (l16shown_any w0).mono ?_
  rintro e w1 ⟨rfl, f1⟩
  obtain ⟨lf, hlf⟩ : ∃ x, max life 1 = x := ⟨_, rfl⟩
  have hmx : (if life < 1 then 1 else life) = lf := by rw [← hlf]; split <;> omega
  have lf1 : 1 ≤ lf := by omega
  have lf2 : lf < 18446744073709551616 := by omega
  go_wp2_with fail
  obtain ⟨rm, hrm⟩ : ∃ rm, min (max room 1) 64 = rm := ⟨_, rfl⟩
  refine (bgNew_z w1 room lf (by omega) lf2 hrm).mono ?_
  rintro e w2 ⟨bb, rfl, h2, f2⟩
  have H := Lib.hid (h2.less (Z' := fun k => k < w0.heap.size) (fun k hk => Nat.lt_of_lt_of_le hk f1.size))
  have FF := Lib.hid (f1.trans f2)
  have HRM := Lib.hid hrm
  have LF1 := Lib.hid lf1
  clear h2 f1 f2 hrm hmx hlf lf1
  go_upto_block 0 with fail
  go_cut [17] (fun t17 wc => ∃ (nw : Int) (X : AB), t17 = .int .u64 nw ∧ 0 ≤ nw ∧ nw ≤ 25500 ∧ BrZ (fun k => k < w0.heap.size) wc bb rm lf X ∧ Stl X ∧ Tl X nw ∧ Fr No w0 wc)
  case first =>
    go_wp2_with fail
    go_loopw [17, 18] (fun t17 t18 wr => ∃ (k : Nat) (nw : Int) (X : AB), k ≤ n ∧ k ≤ 100 ∧ t18 = .int .i64 k ∧ t17 = .int .u64 nw ∧ 0 ≤ nw ∧ nw ≤ 255 * (k : Int) ∧ BrZ (fun k => k < w0.heap.size) wr bb rm lf X ∧ Stl X ∧ Tl X nw ∧ Fr No w0 wr) (fun _ t18 _ => n - (intOf t18).toNat)
    case atStart => exact ⟨0, 0, AB.new, by omega, by omega, rfl, rfl, by omega, by omega, H.out, Stl.new, Tl.new 0, FF.out⟩
    case round =>
      clear H FF
      obtain ⟨k, nw, X, hk, hk2, rfl, rfl, hw0, hw1, h4, st4, tl4, f4⟩ := hrel
      have ST4 := Lib.hid st4
      have TL4 := Lib.hid tl4
      have H4 := Lib.hid h4
      have F4 := Lib.hid f4
      clear h4 f4 st4 tl4
      by_cases hlt : k < n ∧ k < 100
      · obtain ⟨l1, l2⟩ := hlt
        obtain ⟨x, hx⟩ : ∃ x, xs[k]? = some x := ⟨xs[k]'(by rw [← HN.out]; exact l1), List.getElem?_eq_getElem _⟩
        have HXO := Lib.hid (HS.out.2.2.2.2.2 x (List.mem_of_getElem? hx))
        cases ao with
        | none => exfalso; have := HS.out.2.2.2.1 rfl; omega
        | some a =>
          obtain ⟨bo, bcap, c0, c1, c2, c3, c4, hbx⟩ := HS.out.2.2.2.2.1 a rfl k x hx
          have c0 := F4.out.cell (HF.out.cell c0 (fun h => h)) (fun h => h)
          have c1 := F4.out.cell (HF.out.cell c1 (fun h => h)) (fun h => h)
          have c2 := F4.out.cell (HF.out.cell c2 (fun h => h)) (fun h => h)
          have c3 := F4.out.cell (HF.out.cell c3 (fun h => h)) (fun h => h)
          have c4 := F4.out.cell (HF.out.cell c4 (fun h => h)) (fun h => h)
          have hsp : (a.add (k * 5)).spot = none := World.cell?_spot c0
          obtain ⟨⟨ab, aoff, asp⟩, ha⟩ : ∃ b, a.add (k * 5) = b := ⟨_, rfl⟩
          rw [ha] at c0 c1 c2 c3 c4 hsp
          simp only at hsp c0 c1 c2 c3 c4
          subst hsp
          have HBX := Lib.hid ((hbx.no HF.out).no F4.out)
          have by0 : (x.by_.toNat : Int) < 256 := by have := x.by_.toNat_lt; omega
          have by1 : (0 : Int) ≤ (x.by_.toNat : Int) := by omega
          obtain ⟨bl, hbl⟩ : ∃ m, x.b.length = m := ⟨_, rfl⟩
          have HBL := Lib.hid hbl
          rw [hbl] at c3
          clear hx hbx hbl
          go_wp2_with fail
          obtain ⟨r, hr⟩ : ∃ r, aDoes rm lf X x (nw + (x.by_.toNat : Int)) = r := ⟨_, rfl⟩
          have ST5 := Lib.hid (show Stl r.2.2 by rw [← hr]; exact Stl.does H4.out.good ST4.out _ _ _ _)
          have TL5 := Lib.hid (show Tl r.2.2 (nw + (x.by_.toNat : Int)) by rw [← hr]; exact Tl.does H4.out.good (TL4.out.mono (by omega)) _ _ _)
          have HRR := Lib.hid hr
          have CA := l16does_z H4.out x HXO.out HBX.out (now := nw + (x.by_.toNat : Int)) (by omega) (by omega) HRR.out
          rw [HBL.out] at CA
          refine CA.mono ?_
          clear CA hr c0 c1 c2 c3 c4
          rintro e w5 ⟨po, pc, qo, qc, rfl, cp, cq, h5, f5⟩
          have F5 := Lib.hid (F4.out.then f5 (fun i hi h => h hi))
          have H5 := Lib.hid (h5.less (Z' := fun k => k < w0.heap.size) (fun k hk => .inl hk))
          clear cp cq h5 f5 H4 F4 HBX
          go_wp2_with fail
          go_roundw
          case rel => exact ⟨k + 1, nw + (x.by_.toNat : Int), r.2.2, by omega, by omega, by go_num, rfl, by omega, by omega, H5.out, ST5.out, TL5.out, F5.out⟩
          case measure => simp [intOf]; omega
      · have hst : ¬ k < n ∨ (k < n ∧ ¬ k < 100) := by omega
        rcases hst with l1 | ⟨l1, l2⟩
        all_goals
          go_wp2_with fail
          go_meet
          exact ⟨nw, X, rfl, hw0, by omega, H4.out, ST4.out, TL4.out, F4.out⟩
  case rest =>
    clear H FF
    obtain ⟨nw, X, rfl, hw0, hw1, h4, st4, tl4, f4⟩ := hcut
    have ST4 := Lib.hid st4
    have TL4 := Lib.hid tl4
    have H4 := Lib.hid h4
    have F4 := Lib.hid f4
    have RA4 := Lib.hid (f4.heap HA.out (fun h => h))
    have RB4 := Lib.hid (f4.heap HB.out (fun h => h))
    clear h4 f4 st4 tl4 hle hcap HS HN
    go_wp2_with fail
    obtain ⟨sv, hsv⟩ : ∃ s, (mget X.bd port).getD 0 = s := ⟨_, rfl⟩
    obtain ⟨one, hone⟩ : ∃ b, (mget X.bd port).isSome = b := ⟨_, rfl⟩
    obtain ⟨tv, htv⟩ : ∃ s, (mget X.bd other).getD 0 = s := ⟨_, rfl⟩
    obtain ⟨two, htwo⟩ : ∃ b, (mget X.bd other).isSome = b := ⟨_, rfl⟩
    refine (bgSegment_z H4.out HPO.out hsv hone).mono ?_
    rintro e w5 ⟨rfl, f5⟩
    have H5 := Lib.hid (H4.out.no f5)
    have F5 := Lib.hid (F4.out.trans f5)
    have RA5 := Lib.hid (f5.heap RA4.out (fun h => h))
    have RB5 := Lib.hid (f5.heap RB4.out (fun h => h))
    clear H4 F4 RA4 RB4 f5
    go_wp2_with fail
    refine (bgSegment_z H5.out HOT.out htv htwo).mono ?_
    rintro e w6 ⟨rfl, f6⟩
    have H6 := Lib.hid (H5.out.no f6)
    have F6 := Lib.hid (F5.out.trans f6)
    have RA6 := Lib.hid (f6.heap RA5.out (fun h => h))
    have RB6 := Lib.hid (f6.heap RB5.out (fun h => h))
    have HSV := Lib.hid hsv
    have HONE := Lib.hid hone
    have HTV := Lib.hid htv
    have HTWO := Lib.hid htwo
    clear H5 F5 RA5 RB5 f6 hsv hone htv htwo
    obtain ⟨a0, a1, a2, a3, a4, a5⟩ := cells6 RA6.out
    obtain ⟨b0, b1, b2, b3, b4, b5⟩ := cells6 RB6.out
    cases one with
    | false =>
      go_wp2_with fail
      go_ret
      exact ⟨rfl, HF.out.trans F6.out⟩
    | true =>
      cases two with
      | false =>
        go_wp2_with fail
        go_ret
        exact ⟨rfl, HF.out.trans F6.out⟩
      | true =>
        have hms : mget X.bd port = some sv := by
          have h1 := HONE.out; have h2 := HSV.out
          cases hm : mget X.bd port with
          | none => rw [hm] at h1; cases h1
          | some y => rw [hm] at h2; exact congrArg some h2
        have hmt : mget X.bd other = some tv := by
          have h1 := HTWO.out; have h2 := HTV.out
          cases hm : mget X.bd other with
          | none => rw [hm] at h1; cases h1
          | some y => rw [hm] at h2; exact congrArg some h2
        have HMS := Lib.hid hms
        have HMT := Lib.hid hmt
        have HSG := Lib.hid (H6.out.good.bk port sv hms).2
        clear hms hmt HONE HSV HTWO HTV
        obtain ⟨bn, mn, LN, hbs, hfd, hab, hbz⟩ := bgBase_fd H6.out HSG.out
        have HBS := Lib.hid hbs
        clear hbs hfd hab hbz
        obtain ⟨ne, hne⟩ : ∃ b, (sv != tv) = b := ⟨_, rfl⟩
        obtain ⟨pe, hpe⟩ : ∃ b, (port == other) = b := ⟨_, rfl⟩
        obtain ⟨g1, hg1⟩ : ∃ b, (bits .and .u8 (fa.toNat : Int) 1 == 1) = b := ⟨_, rfl⟩
        obtain ⟨g2, hg2⟩ : ∃ b, (bits .and .u8 (ta.toNat : Int) 1 == 1) = b := ⟨_, rfl⟩
        obtain ⟨mo, hmo⟩ : ∃ b, decide ((⟨fa, fb, fc, fd, fe, ff⟩ : Mac) = ⟨ta, tb, tc, td, te, tf⟩) = b := ⟨_, rfl⟩
        have em : ∀ W, (binOp .eql 25 (.agg #[.int .u8 (fa.toNat : Int), .int .u8 (fb.toNat : Int), .int .u8 (fc.toNat : Int), .int .u8 (fd.toNat : Int), .int .u8 (fe.toNat : Int), .int .u8 (ff.toNat : Int)]) (.agg #[.int .u8 (ta.toNat : Int), .int .u8 (tb.toNat : Int), .int .u8 (tc.toNat : Int), .int .u8 (td.toNat : Int), .int .u8 (te.toNat : Int), .int .u8 (tf.toNat : Int)])).run Try.prog W = .ok (.bool mo) W := fun W => by rw [← hmo]; exact eqM ⟨fa, fb, fc, fd, fe, ff⟩ ⟨ta, tb, tc, td, te, tf⟩ W
        have HMO := Lib.hid hmo
        have HG1 := Lib.hid ((grp_bits fa).symm.trans hg1)
        have HG2 := Lib.hid ((grp_bits ta).symm.trans hg2)
        clear hmo
        cases ne with
        | true =>
          go_wp2_with fail
          go_ret
          exact ⟨rfl, HF.out.trans F6.out⟩
        | false =>
          cases pe with
          | true =>
            go_wp2_with fail
            go_ret
            exact ⟨rfl, HF.out.trans F6.out⟩
          | false =>
            cases g1 with
            | true =>
              go_wp2_with fail
              go_ret
              exact ⟨rfl, HF.out.trans F6.out⟩
            | false =>
              cases g2 with
              | true =>
                go_wp2_with fail
                go_ret
                exact ⟨rfl, HF.out.trans F6.out⟩
              | false =>
                cases mo with
                | true =>
                  go_wp2_with fail
                  go_ret
                  exact ⟨rfl, HF.out.trans F6.out⟩
                | false =>
                  have hr2 : room < 2 ∨ ¬ room < 2 := by omega
                  rcases hr2 with hr2 | hr2
                  · go_wp2_with fail
                    refine (HBS.out _ (Fr.refl _ _)).mono ?_
                    rintro e w7 ⟨rfl, rfl⟩
                    go_wp2_with fail
                    go_ret
                    exact ⟨rfl, HF.out.trans F6.out⟩
                  · go_wp2_with fail
                    refine (HBS.out _ (Fr.refl _ _)).mono ?_
                    rintro e w7 ⟨rfl, rfl⟩
                    have hst : tv = sv := by have h := hne; simp at h; exact h.symm
                    subst hst
                    have hpq : port ≠ other := by have h := hpe; simpa using h
                    have rm2 : 2 ≤ rm := by have := HRM.out; omega
                    have ho : grpM ⟨fa, fb, fc, fd, fe, ff⟩ = false := HG1.out
                    have hu : grpM ⟨ta, tb, tc, td, te, tf⟩ = false := HG2.out
                    have hou : (⟨fa, fb, fc, fd, fe, ff⟩ : Mac) ≠ ⟨ta, tb, tc, td, te, tf⟩ := by have h := HMO.out; simpa using h
                    obtain ⟨out1, X1, X2, X3, p1, p2, p3, p4⟩ := learns_law rm2 LF1.out H6.out.good ST4.out H6.out.srt TL4.out (show nw < nw + 1 by omega) HMS.out HMT.out hpq ho hu hou
                    have P1 := Lib.hid p1
                    have P2 := Lib.hid p2
                    have P3 := Lib.hid p3
                    have P4 := Lib.hid p4
                    have OKP := Lib.hid (H6.out.good.bk port tv HMS.out).1
                    clear p1 p2 p3 p4 hne hpe hg1 hg2 em rm2 ho hu hou hpq HMS HMT HBS HRM HG1 HG2 HMO ST4 TL4 mn LN
                    go_wp2_with fail
                    refine (l16frame_any ⟨ta, tb, tc, td, te, tf⟩ ⟨fa, fb, fc, fd, fe, ff⟩ _).mono ?_
                    rintro e w7 ⟨g7, rfl, hb7, f7, -⟩
                    have H7 := Lib.hid (H6.out.no f7)
                    have F7 := Lib.hid (F6.out.trans f7)
                    have RA7 := Lib.hid (f7.heap RA6.out (fun h => h))
                    have RB7 := Lib.hid (f7.heap RB6.out (fun h => h))
                    have HB7 := Lib.hid hb7
                    clear H6 F6 RA6 RB6 f7 hb7 a0 a1 a2 a3 a4 a5 b0 b1 b2 b3 b4 b5
                    go_wp2_with fail
                    refine (bgFromPort_z H7.out HPO.out HB7.out (now := nw + 1) (by omega) (by omega) P1.out).mono ?_
                    rintro e w8 ⟨po8, pc8, qo8, qc8, rfl, cp8, cq8, h8, f8⟩
                    dsimp only at cp8 cq8 h8 ⊢
                    have H8 := Lib.hid (h8.less (Z' := fun k => k < w0.heap.size) (fun k hk => .inl hk))
                    have F8 := Lib.hid (F7.out.then f8 (fun i hi h => h hi))
                    have RA8 := Lib.hid (f8.heap RA7.out (fun h => h LA.out))
                    have RB8 := Lib.hid (f8.heap RB7.out (fun h => h LB.out))
                    clear H7 F7 RA7 RB7 HB7 f8 h8 cp8 cq8
                    generalize out1.ps.length = np8
                    generalize out1.qs.length = nq8
                    generalize out1.fl = fl8
                    have fa8 := (Fr.refl No w8).alloc (.cells #[.slice po8 np8 pc8, .slice qo8 nq8 qc8, .bool fl8] 34)
                    have H9 := Lib.hid (H8.out.no fa8)
                    have F9 := Lib.hid (F8.out.trans fa8)
                    have RA9 := Lib.hid (fa8.heap RA8.out (fun h => h))
                    have RB9 := Lib.hid (fa8.heap RB8.out (fun h => h))
                    clear H8 F8 RA8 RB8 fa8
                    go_upto_region 18 with fail
                    generalize World.alloc _ _ = w9 at H9 F9 RA9 RB9 ⊢
                    generalize w8.heap.size = b23
                    obtain ⟨bn9, mn9, LN9, hbs, hfd, hab, hbz⟩ := bgBase_fd H9.out HSG.out
                    have HBS := Lib.hid hbs
                    have HQ : Hid (∀ W, Fr No w9 W → Calls Try.prog 17 #[.pointer (some ⟨bn9, 0, none⟩), .agg #[.int .u8 (fa.toNat : Int), .int .u8 (fb.toNat : Int), .int .u8 (fc.toNat : Int), .int .u8 (fd.toNat : Int), .int .u8 (fe.toNat : Int), .int .u8 (ff.toNat : Int)], .int .u64 (nw + 1)] W fun e w' => e = .returned (.tuple #[.agg #[.bool false, .int .i64 port], .bool true]) ∧ Fr No W w') := Lib.hid (fun W hW => fbFind_at (hfd.no hW) hab ⟨fa, fb, fc, fd, fe, ff⟩ (by omega) (by omega) P2.out)
                    clear hbs hfd hab hbz
                    have SF : Hid (∀ W, Fr No w9 W → (W.cell? ⟨bA, 0, none⟩ = some (.int .u8 (fa.toNat : Int)) ∧ W.cell? ⟨bA, 1, none⟩ = some (.int .u8 (fb.toNat : Int)) ∧ W.cell? ⟨bA, 2, none⟩ = some (.int .u8 (fc.toNat : Int)) ∧ W.cell? ⟨bA, 3, none⟩ = some (.int .u8 (fd.toNat : Int)) ∧ W.cell? ⟨bA, 4, none⟩ = some (.int .u8 (fe.toNat : Int)) ∧ W.cell? ⟨bA, 5, none⟩ = some (.int .u8 (ff.toNat : Int)))) := Lib.hid (fun W f => cells6 (f.heap RA9.out (fun h => h)))
                    go_cut [25, 26] (fun s25 s26 wx => ∃ xb : Nat, s25 = .pointer (some ⟨xb, 0, none⟩) ∧ s26 = .bool true ∧ wx.heap[xb]? = some (.cells #[.bool false, .int .i64 port] 46 (0, 0)) ∧ Fr No w9 wx ∧ w9.heap.size ≤ xb)
                    case first =>
                      go_region_held3 (fun W => (W.cell? ⟨bA, 0, none⟩ = some (.int .u8 (fa.toNat : Int)) ∧ W.cell? ⟨bA, 1, none⟩ = some (.int .u8 (fb.toNat : Int)) ∧ W.cell? ⟨bA, 2, none⟩ = some (.int .u8 (fc.toNat : Int)) ∧ W.cell? ⟨bA, 3, none⟩ = some (.int .u8 (fd.toNat : Int)) ∧ W.cell? ⟨bA, 4, none⟩ = some (.int .u8 (fe.toNat : Int)) ∧ W.cell? ⟨bA, 5, none⟩ = some (.int .u8 (ff.toNat : Int))))
                        (first | exact SF.out _ (Fr.refl _ _).drew | exact SF.out _ ((Fr.refl _ _).alloc _).drew | exact SF.out _ (((Fr.refl _ _).drew).alloc _) | exact SF.out _ ((Fr.refl _ _).drew.trans f3) | exact SF.out _ ((((Fr.refl _ _).alloc _).drew).trans f3) | exact SF.out _ (((Fr.refl _ _).drew.trans f3).alloc _) | exact SF.out _ ((((Fr.refl _ _).drew).alloc _).trans f3) | exact SF.out _ (aft2a (w0 := w9) (Nat.le_refl _) f3 _ _).2.1 | exact SF.out _ (boxA ((Fr.refl No _).drew) f3 _ _).2.1 | exact SF.out _ (boxB ((Fr.refl No _).drew.trans f3) _ _).2.1 | go_keep)
                        (first | (go_at_call 14; refine (HBS.out _ (by first | exact (Fr.refl No _).drew | exact ((Fr.refl No _).alloc _).drew | exact ((Fr.refl No _).drew).alloc _ | exact Fr.refl No _)).mono ?_; rintro e w3 ⟨rfl, rfl⟩) | (go_at_call 17; refine (HQ.out _ (by first | exact (Fr.refl No _).drew | exact ((Fr.refl No _).alloc _).drew | exact ((Fr.refl No _).drew).alloc _ | exact Fr.refl No _)).mono ?_; rintro e w3 ⟨rfl, f3⟩; first | (have bx := box2 f3; obtain ⟨bx0, bx1, bx2, bx3⟩ := bx) | (have bx := boxC f3; obtain ⟨bx0, bx1, bx2, bx3⟩ := bx) | skip))
                      all_goals
                        try go_wp2_with fail
                        go_meet
                        first
                        | (have h9 := aft2a (w0 := w9) (Nat.le_refl _) f3 (.bool false) (.int .i64 port)
                           exact ⟨_, rfl, rfl, h9.1, h9.2.1, h9.2.2⟩)
                        | (have h9 := boxA ((Fr.refl No _).drew) f3 (.bool false) (.int .i64 port)
                           exact ⟨_, rfl, rfl, h9.1, h9.2.1, h9.2.2⟩)
                        | (have h9 := boxB ((Fr.refl No _).drew.trans f3) (.bool false) (.int .i64 port) (t := 46)
                           exact ⟨_, rfl, rfl, h9.1, h9.2.1, h9.2.2⟩)
                    case rest =>
                      obtain ⟨xb, rfl, rfl, rx, fx, lx⟩ := hcut
                      have ltx := lt_of_heap rx
                      obtain ⟨Z1, hz1⟩ : ∃ Z1 : Nat → Prop, (fun k => k < w0.heap.size ∨ (w9.heap.size ≤ k ∧ k < wc.heap.size)) = Z1 := ⟨_, rfl⟩
                      have H10 : Hid (BrZ Z1 wc bb rm lf X1) := Lib.hid (by rw [← hz1]; exact H9.out.more fx)
                      have Z0 : Hid (∀ k, k < w0.heap.size → Z1 k) := Lib.hid (fun k hk => by rw [← hz1]; exact .inl hk)
                      have ZX : Hid (Z1 xb) := Lib.hid (by rw [← hz1]; exact .inr ⟨lx, ltx⟩)
                      clear hz1
                      have RX := Lib.hid rx
                      have F10 := Lib.hid (F9.out.trans fx)
                      have RA10 := Lib.hid (fx.heap RA9.out (fun h => h))
                      have RB10 := Lib.hid (fx.heap RB9.out (fun h => h))
                      clear rx fx lx ltx HQ SF HBS H9 F9 RA9 RB9
                      generalize wc = w10 at H10 RX F10 RA10 RB10 ⊢
                      obtain ⟨a0, a1, a2, a3, a4, a5⟩ := cells6 RA10.out
                      obtain ⟨b0, b1, b2, b3, b4, b5⟩ := cells6 RB10.out
                      go_wp2_with fail
                      refine (l16frame_any ⟨fa, fb, fc, fd, fe, ff⟩ ⟨ta, tb, tc, td, te, tf⟩ _).mono ?_
                      rintro e w11 ⟨g11, rfl, hb11, f11, -⟩
                      have H11 := Lib.hid (H10.out.no f11)
                      have F11 := Lib.hid (F10.out.trans f11)
                      have RA11 := Lib.hid (f11.heap RA10.out (fun h => h))
                      have RX11 := Lib.hid (f11.heap RX.out (fun h => h))
                      have HB11 := Lib.hid hb11
                      clear H10 F10 RA10 RB10 RX f11 hb11 a0 a1 a2 a3 a4 a5 b0 b1 b2 b3 b4 b5
                      go_wp2_with fail
                      refine (bgFromPort_z H11.out HOT.out HB11.out (now := nw + 1) (by omega) (by omega) P3.out).mono ?_
                      rintro e w12 ⟨po, pc, qo, qc, rfl, cp, cq, h12, f12⟩
                      simp only [List.length_cons, List.length_nil, Nat.zero_add] at cp cq ⊢
                      obtain ⟨gp, rfl, -⟩ := cp.one_cell
                      obtain ⟨Z2, h13, z1, z2, z3, z4⟩ := h12.box (.cells #[.slice (some ⟨gp, 0, none⟩) 1 pc, .slice qo 0 qc, .bool false] 34)
                      have fa := (Fr.refl No w12).alloc (.cells #[.slice (some ⟨gp, 0, none⟩) 1 pc, .slice qo 0 qc, .bool false] 34)
                      have RO := Lib.hid (heap_alloc_new w12 (.cells #[.slice (some ⟨gp, 0, none⟩) 1 pc, .slice qo 0 qc, .bool false] 34))
                      have Z02 := Lib.hid (fun k hk => z1 k (Z0.out k hk))
                      have ZX2 := Lib.hid (z1 _ ZX.out)
                      have ZP2 := Lib.hid z2
                      have ZO2 := Lib.hid z4
                      have H13 := Lib.hid h13
                      have F13 := Lib.hid ((F11.out.then f12 (fun i hi h => h (Z0.out i hi))).trans fa)
                      have RA13 := Lib.hid (fa.heap (f12.heap RA11.out (fun h => h (Z0.out _ LA.out))) (fun h => h))
                      have RX13 := Lib.hid (fa.heap (f12.heap RX11.out (fun h => h ZX.out)) (fun h => h))
                      have CP13 := Lib.hid (cp.no fa)
                      clear H11 F11 RA11 RX11 HB11 f12 h12 cp cq h13 z1 z2 z3 z4 fa Z0 ZX
                      obtain ⟨a0, a1, a2, a3, a4, a5⟩ := cells6 RA13.out
                      go_upto_region 20 with fail
                      generalize World.alloc _ _ = w13 at H13 F13 RA13 RX13 RO CP13 ⊢
                      obtain ⟨a0, a1, a2, a3, a4, a5⟩ := cells6 RA13.out
                      generalize w12.heap.size = ob at RO ZO2 ⊢
                      go_wp2_with fail
                      refine (l16frame_any ⟨fa, fb, fc, fd, fe, ff⟩ ⟨fa, fb, fc, fd, fe, ff⟩ _).mono ?_
                      rintro e w14 ⟨g14, rfl, hb14, f14, -⟩
                      have H14 := Lib.hid (H13.out.no f14)
                      have F14 := Lib.hid (F13.out.trans f14)
                      have RX14 := Lib.hid (f14.heap RX13.out (fun h => h))
                      have RO14 := Lib.hid (f14.heap RO.out (fun h => h))
                      have CP14 := Lib.hid (CP13.out.no f14)
                      have HB14 := Lib.hid hb14
                      clear H13 F13 RA13 RX13 RO CP13 f14 hb14 a0 a1 a2 a3 a4 a5
                      go_wp2_with fail
                      refine (bgFromPort_z H14.out HPO.out HB14.out (now := nw + 1) (by omega) (by omega) P4.out).mono ?_
                      unfold noOut
                      rintro e w15 ⟨po5, pc5, qo5, qc5, rfl, cp5, cq5, h15, f15⟩
                      simp only [List.length_cons, List.length_nil, Nat.zero_add] at cp5 cq5 ⊢
                      have fz := (Fr.refl No w15).alloc (.cells #[.slice po5 0 pc5, .slice qo5 0 qc5, .bool false] 34)
                      have RZ := Lib.hid (heap_alloc_new w15 (.cells #[.slice po5 0 pc5, .slice qo5 0 qc5, .bool false] 34))
                      have F16 := Lib.hid ((F14.out.then f15 (fun i hi h => h (Z02.out i hi))).trans fz)
                      have RX16 := Lib.hid (fz.heap (f15.heap RX14.out (fun h => h ZX2.out)) (fun h => h))
                      have RO16 := Lib.hid (fz.heap (f15.heap RO14.out (fun h => h ZO2.out)) (fun h => h))
                      have CP16 := Lib.hid ((CP14.out.fr f15 (fun a ha h => h (ZP2.out a ha))).no fz)
                      clear H14 F14 RX14 RO14 CP14 HB14 f15 h15 cp5 cq5 fz Z02 ZX2 ZP2 ZO2
                      go_upto_region 21 with fail
                      generalize World.alloc _ _ = w16 at F16 RX16 RO16 RZ CP16 ⊢
                      generalize w15.heap.size = zb at RZ ⊢
                      obtain ⟨x0, x1⟩ := cells2 RX16.out
                      obtain ⟨y0, y1, y2⟩ := cells3 RO16.out
                      obtain ⟨v0, v1, v2⟩ := cells3 RZ.out
                      obtain ⟨gq, hgq, u0⟩ := CP16.out.one_cell
                      cases hgq
                      have hpl : ∀ W, (binOp .eql 46 (.agg #[.bool false, .int .i64 port]) (.agg #[.bool false, .int .i64 port])).run Try.prog W = .ok (.bool true) W := fun W => by have h := eqPl ⟨false, port⟩ ⟨false, port⟩ W; rw [decide_eq_true rfl] at h; exact h
                      go_wp2_with fail
                      go_ret
                      exact ⟨rfl, HF.out.trans F16.out⟩
end Go.Proofs.Yticebdoiahadoaa

/- The reference of layer 13: Decap, the walk. -/
import Derived.Test.YtghjcgpdmlfmjaaDoorRef13c
namespace Go.Proofs.YtghjcgpdmlfmjaaDoor
open Go.RowKit
set_option linter.unusedVariables false

def G13 (w : World) (r : GRes) (e : Ending) (w' : World) : Prop :=
  e = .returned (.tuple #[hdrV r, .string ⟨(outB r).toArray⟩, .int .i64 (codeG r), .bool (innerG r)]) ∧ Fr No w w'

theorem four_head : ∀ (bs : List UInt8), ¬ bs.length < 4 → ∃ a b c d r, bs = a :: b :: c :: d :: r
  | a :: b :: c :: d :: r, _ => ⟨a, b, c, d, r, rfl⟩
  | [], h => absurd (by simp) h
  | [_], h => absurd (by simp) h
  | [_, _], h => absurd (by simp) h
  | [_, _, _], h => absurd (by simp) h

set_option maxHeartbeats 4000000 in
set_option maxRecDepth 100000 in
theorem ref13Decap_any (bs : List UInt8) (hn : bs.length ≤ 10000) (w : World) : Calls Tryd.prog 17 #[.string ⟨bs.toArray⟩] w (G13 w (gDec bs)) := by
  have hsz := strSize bs
  have X0 := Lib.hid (heap_alloc_new w (.cells #[.bool false, .bool false, .int .u32 0, .bool false, .int .u32 0] 43))
  have F0 := Lib.hid ((Fr.refl No w).alloc (.cells #[.bool false, .bool false, .int .u32 0, .bool false, .int .u32 0] 43))
  have hs0 : (w.alloc (.cells #[.bool false, .bool false, .int .u32 0, .bool false, .int .u32 0] 43)).heap.size = w.heap.size + 1 := by simp
  go_enter Tryd.func17, Tryd.ntmps17
  go_upto_if 12 with fail
  generalize w.alloc (.cells #[.bool false, .bool false, .int .u32 0, .bool false, .int .u32 0] 43) = w0 at *
  obtain ⟨c0, c1, c2, c3, c4⟩ := cells5 X0.out
  obtain ⟨z0, z1, z2, z3, z4⟩ := free5 X0.out
  by_cases h4 : bs.length < 4
  · have HG : Hid (gDec bs = .no true 2) := Lib.hid (by unfold gDec; rw [if_pos h4])
    go_wp2_with fail
    refine bodyPost_ret (v := .tuple #[zeroH, .string ⟨#[]⟩, .int .i64 2, .bool true]) (by simp [results, Tryd.results17, go_sem, zeroH, c0, c1, c2, c3, c4]) rfl ?_
    rw [HG.out]
    exact ⟨rfl, by exact F0.out.set5 (.inr (Nat.le_refl _)) _ _ _ _ _⟩
  · obtain ⟨a, b, c, d, r, hbs⟩ : ∃ a b c d r, bs = a :: b :: c :: d :: r := four_head bs h4
    have HB := Lib.hid hbs
    have HD := Lib.hid (gDec_at hbs)
    have ia : ∀ h, (({ data := bs.toArray } : ByteArray)[0]'h) = a := fun h => by subst hbs; rfl
    have ib : ∀ h, (({ data := bs.toArray } : ByteArray)[1]'h) = b := fun h => by subst hbs; rfl
    have ic : ∀ h, (({ data := bs.toArray } : ByteArray)[2]'h) = c := fun h => by subst hbs; rfl
    have id' : ∀ h, (({ data := bs.toArray } : ByteArray)[3]'h) = d := fun h => by subst hbs; rfl
    have la := a.toNat_lt
    have lb := b.toNat_lt
    have lc := c.toNat_lt
    have ld := d.toNat_lt
    clear hbs
    by_cases h1 : a.toNat % 16 = 0 ∧ a.toNat / 64 % 2 = 0 ∧ b.toNat = 0
    · have k1 : (a.toNat : Int) % 16 = 0 := by omega
      have k2 : (a.toNat : Int) / 64 % 2 = 0 := by omega
      have k3 : (b.toNat : Int) = 0 := by omega
      have H1 := Lib.hid h1
      clear h1
      by_cases h2 : c.toNat = 101 ∧ d.toNat = 88
      · have k4 : (c.toNat : Int) = 101 := by omega
        have k5 : (d.toNat : Int) = 88 := by omega
        have H2 := Lib.hid h2
        clear h2
        obtain ⟨s, hs⟩ : ∃ s, s = decide (128 ≤ a.toNat) := ⟨_, rfl⟩
        obtain ⟨k, hk⟩ : ∃ k, k = decide (a.toNat / 32 % 2 = 1) := ⟨_, rfl⟩
        obtain ⟨q, hq⟩ : ∃ q, q = decide (a.toNat / 16 % 2 = 1) := ⟨_, rfl⟩
        have HD := (show Hid _ from by have h := HD.out; rw [← hs, ← hk, ← hq] at h; exact Lib.hid h)
        have hs' : decide ((128 : Int) ≤ (a.toNat : Int)) = s := by rw [hs, decide_eq_decide]; omega
        have hk' : ((a.toNat : Int) / 32 % 2 == 1) = k := by rw [hk]; by_cases h : a.toNat / 32 % 2 = 1 <;> simp [h] <;> omega
        have hq' : ((a.toNat : Int) / 16 % 2 == 1) = q := by rw [hq]; by_cases h : a.toNat / 16 % 2 = 1 <;> simp [h] <;> omega
        clear hs hk hq
        go_upto_region 7 with fail
        go_cut [6] (fun t6 wc => t6 = .pointer (some ⟨w.heap.size + 1, 0, none⟩) ∧ wc.heap[w.heap.size + 1]? = some (.cells #[.bool s, .bool k, .int .u32 0, .bool q, .int .u32 0] 43 (0, 0)) ∧ Fr No w0 wc)
        case first =>
          go_region
          go_wp2_with fail
          go_meet
          case rel =>
            refine ⟨rfl, ?_, ((Fr.refl No w0).alloc _).drew⟩
            rw [← hs0]
            exact ((Fr.refl No _).drew).heap (heap_alloc_new w0 _) (fun h => h)
        case rest =>
          obtain ⟨rfl, x1, f1⟩ := hcut
          obtain ⟨hb, hB⟩ : ∃ b, b = w.heap.size + 1 := ⟨_, rfl⟩
          obtain ⟨rb, hR⟩ : ∃ b, b = w.heap.size := ⟨_, rfl⟩
          rw [← hB] at x1 ⊢
          have hne : hb ≠ rb := by omega
          have hlt : w.heap.size ≤ rb ∧ w.heap.size ≤ hb := by omega
          have x0 := f1.heap X0.out (fun h => h)
          rw [← hR] at x0 ⊢
          have X1 := Lib.hid x1
          have XR := Lib.hid x0
          have F1 := Lib.hid (F0.out.then_no f1)
          have LT := Lib.hid hlt
          have NE := Lib.hid hne
          clear c0 c1 c2 c3 c4 z0 z1 z2 z3 z4 X0 F0 hs0 hs' hk' hq' ia ib ic id' k1 k2 k3 k4 k5 hB hR hne hlt f1 h4
          obtain ⟨c0, c1, c2, c3, c4⟩ := cells5 x0
          obtain ⟨z0, z1, z2, z3, z4⟩ := free5 x0
          obtain ⟨d0, d1, d2, d3, d4⟩ := cells5 x1
          clear x0 x1
          go_upto_if 55 with fail
          go_cut [7] (fun t7 w' => t7 = .int .i64 ((4 + (if s then 4 else 0) : Nat) : Int) ∧ w' = wc)
          case first =>
            cases s
            · go_wp2_with fail
              go_meet
              case rel => exact ⟨rfl, rfl⟩
            · go_wp2_with fail
              go_meet
              case rel => exact ⟨rfl, rfl⟩
          case rest =>
          obtain ⟨rfl, rfl⟩ := hcut
          obtain ⟨A1, hA1⟩ : ∃ A1, A1 = 4 + (if s then 4 else 0) := ⟨_, rfl⟩
          rw [← hA1]
          have a1 : 4 ≤ A1 ∧ A1 ≤ 8 := by rw [hA1]; cases s <;> simp
          have HA1 := Lib.hid hA1
          clear hA1
          go_upto_if 59 with fail
          go_cut [7] (fun t7 w' => t7 = .int .i64 ((A1 + (if k then 4 else 0) : Nat) : Int) ∧ w' = wc)
          case first =>
            cases k
            · go_wp2_with fail
              go_meet
              case rel => exact ⟨rfl, rfl⟩
            · go_wp2_with fail
              go_meet
              case rel => exact ⟨by go_num, rfl⟩
          case rest =>
          obtain ⟨rfl, rfl⟩ := hcut
          obtain ⟨A2, hA2⟩ : ∃ A2, A2 = A1 + (if k then 4 else 0) := ⟨_, rfl⟩
          rw [← hA2]
          have a2 : 4 ≤ A2 ∧ A2 ≤ 12 := by rw [hA2]; cases k <;> simp <;> omega
          have HA2 := Lib.hid hA2
          clear hA2
          go_upto_if 63 with fail
          go_cut [7] (fun t7 w' => t7 = .int .i64 ((A2 + (if q then 4 else 0) : Nat) : Int) ∧ w' = wc)
          case first =>
            cases q
            · go_wp2_with fail
              go_meet
              case rel => exact ⟨rfl, rfl⟩
            · go_wp2_with fail
              go_meet
              case rel => exact ⟨by go_num, rfl⟩
          case rest =>
          obtain ⟨rfl, rfl⟩ := hcut
          obtain ⟨A3, hA3⟩ : ∃ A3, A3 = A2 + (if q then 4 else 0) := ⟨_, rfl⟩
          rw [← hA3]
          have a3 : 4 ≤ A3 ∧ A3 ≤ 16 := by rw [hA3]; cases q <;> simp <;> omega
          have HA3 := Lib.hid hA3
          have HH : Hid (greHead s k q = A3) := Lib.hid (by rw [hA3, HA2.out, HA1.out]; rfl)
          clear hA3
          have HD2 := HD.out
          rw [if_neg (by simpa using H1.out), if_neg (by simpa using H2.out), HH.out] at HD2
          have HD := Lib.hid HD2
          clear HD2
          by_cases h3 : bs.length < A3
          · have HG : Hid (gDec bs = .no true 2) := Lib.hid (by rw [HD.out, if_pos h3])
            go_wp2_with fail
            refine bodyPost_ret (v := .tuple #[zeroH, .string ⟨#[]⟩, .int .i64 2, .bool true]) (by simp [results, Tryd.results17, go_sem, zeroH, c0, c1, c2, c3, c4]) rfl ?_
            rw [HG.out]
            exact ⟨rfl, by exact F1.out.set5 (.inr LT.out.1) _ _ _ _ _⟩
          · have HD3 := HD.out
            rw [if_neg h3] at HD3
            have HD := Lib.hid HD3
            clear HD3
            obtain ⟨sm, hsm⟩ : ∃ sm, sm = sumS bs := ⟨_, rfl⟩
            have HSM := Lib.hid hsm
            clear hsm
            go_upto_if 72 with fail
            go_cut [8] (fun t8 w' => t8 = .int .i64 (A1 : Int) ∧ Fr No wc w' ∧ ¬ (s = true ∧ sm ≠ 0))
            case first =>
              cases s
              · have e : A1 = 4 := HA1.out
                go_wp2_with fail
                go_meet
                case rel => exact ⟨by rw [e]; rfl, Fr.refl _ _, by simp⟩
              · have e : A1 = 8 := HA1.out
                have E := Lib.hid e
                by_cases hx : sm = 0
                · subst hx
                  clear e
                  go_wp2_with (go_at_call 41; refine (ref02Sum_any bs (by omega) _).mono ?_; rw [← HSM.out]; rintro e w5 ⟨rfl, f5⟩)
                  go_meet
                  case rel => exact ⟨by rw [E.out]; rfl, f5, by simp⟩
                · have HG : Hid (gDec bs = .no false 4) := Lib.hid (by rw [HD.out, if_pos ⟨rfl, by rw [← HSM.out]; exact hx⟩])
                  have hxi : ¬ ((sm : Nat) : Int) = 0 := by omega
                  clear c0 c1 c2 c3 c4 z0 z1 z2 z3 z4 d0 d1 d2 d3 d4 e
                  obtain ⟨d0, d1, d2, d3, d4⟩ := cells5 X1.out
                  go_wp2_with (go_at_call 41; refine (ref02Sum_any bs (by omega) _).mono ?_; rw [← HSM.out]; rintro e w5 ⟨rfl, f5⟩; have x5 := f5.heap XR.out (fun h => h); have F5 := Lib.hid (F1.out.then_no f5); clear f5; obtain ⟨c0, c1, c2, c3, c4⟩ := cells5 x5; obtain ⟨z0, z1, z2, z3, z4⟩ := free5 x5; clear x5)
                  refine bodyPost_ret (v := .tuple #[zeroH, .string ⟨#[]⟩, .int .i64 4, .bool false]) (by simp [results, Tryd.results17, go_sem, zeroH, c0, c1, c2, c3, c4]) rfl ?_
                  rw [HG.out]
                  exact ⟨rfl, by exact F5.out.set5 (.inr LT.out.1) _ _ _ _ _⟩
            case rest =>
            obtain ⟨rfl, f2, hns⟩ := hcut
            have HD4 := HD.out
            rw [if_neg (by rw [← HSM.out]; exact hns)] at HD4
            have HD := Lib.hid HD4
            have x1 := f2.heap X1.out (fun h => h)
            have x0 := f2.heap XR.out (fun h => h)
            have F2 := Lib.hid (F1.out.then_no f2)
            have X1 := Lib.hid x1
            have XR := Lib.hid x0
            clear c0 c1 c2 c3 c4 z0 z1 z2 z3 z4 d0 d1 d2 d3 d4 F1 f2 hns HD4 x0
            obtain ⟨d0, d1, d2, d3, d4⟩ := cells5 x1
            obtain ⟨z0, z1, z2, z3, z4⟩ := free5 x1
            clear x1
            go_upto_if 78 with fail
            go_cut [8] (fun t8 w' => t8 = .int .i64 (A2 : Int) ∧ Fr (Is hb) wc w' ∧ w'.heap[hb]? = some (.cells #[.bool s, .bool k, .int .u32 ((if k then be ((bs.drop A1).take 4) else 0 : Nat) : Int), .bool q, .int .u32 0] 43 (0, 0)))
            case first =>
              cases k
              · have e : A2 = A1 := HA2.out
                go_wp2_with fail
                go_meet
                case rel => exact ⟨by rw [e], Fr.refl _ _, X1.out⟩
              · have e : A2 = A1 + 4 := HA2.out
                have h32 : A2 ≤ bs.length := by have := HA3.out; omega
                have b1 : (A1 : Int) + 4 ≤ (bs.length : Int) := by omega
                have b2 : (A1 : Int) ≤ (A1 : Int) + 4 := by omega
                have E := Lib.hid e
                clear e
                have hx := fun (wx : World) => ref11Number_s (({ data := bs.toArray } : ByteArray).extract A1 (A1 + 4)) (by rw [ByteArray.size_extract]; omega) wx
                have HX := Lib.hid hx
                clear hx
                go_wp2_with (go_at_call 32; refine (HX.out _).mono ?_; rintro e w5 ⟨rfl, rfl⟩)
                go_meet
                case rel =>
                  refine ⟨by rw [E.out]; go_num, (Fr.refl (Is hb) wc).setCell (p := ⟨hb, 2, none⟩) (.inl rfl) _, set_row (cs' := #[.bool s, .bool true, .int .u32 (be ((bs.drop A1).take 4) : Nat), .bool q, .int .u32 0]) X1.out 2 _ (by simp)⟩
            case rest =>
            obtain ⟨rfl, f3, x1⟩ := hcut
            obtain ⟨K, hK⟩ : ∃ K : Nat, K = (if k then be ((bs.drop A1).take 4) else 0) := ⟨_, rfl⟩
            rw [← hK] at x1
            have HK := Lib.hid hK
            have x0 := f3.heap XR.out (fun h => NE.out h.symm)
            have F3 := Lib.hid (F2.out.then f3 (by rintro i hi rfl; have := LT.out; omega))
            have X1 := Lib.hid x1
            have XR := Lib.hid x0
            clear d0 d1 d2 d3 d4 z0 z1 z2 z3 z4 F2 f3 hK x0
            obtain ⟨d0, d1, d2, d3, d4⟩ := cells5 x1
            obtain ⟨z0, z1, z2, z3, z4⟩ := free5 x1
            clear x1
            go_upto_if 89 with fail
            go_cut [] (fun w' => Fr (Is hb) wc w' ∧ w'.heap[hb]? = some (.cells #[.bool s, .bool k, .int .u32 (K : Int), .bool q, .int .u32 ((if q then be ((bs.drop A2).take 4) else 0 : Nat) : Int)] 43 (0, 0)))
            case first =>
              cases q
              · go_wp2_with fail
                go_meet
                case rel => exact ⟨Fr.refl _ _, X1.out⟩
              · have e : A3 = A2 + 4 := HA3.out
                have h32 : A2 + 4 ≤ bs.length := by omega
                have b1 : (A2 : Int) + 4 ≤ (bs.length : Int) := by omega
                have b2 : (A2 : Int) ≤ (A2 : Int) + 4 := by omega
                have E := Lib.hid e
                clear e
                have hx := fun (wx : World) => ref11Number_s (({ data := bs.toArray } : ByteArray).extract A2 (A2 + 4)) (by rw [ByteArray.size_extract]; omega) wx
                have HX := Lib.hid hx
                clear hx
                go_wp2_with (go_at_call 32; refine (HX.out _).mono ?_; rintro e w5 ⟨rfl, rfl⟩)
                go_meet
                case rel =>
                  refine ⟨(Fr.refl (Is hb) wc).setCell (p := ⟨hb, 4, none⟩) (.inl rfl) _, set_row (cs' := #[.bool s, .bool k, .int .u32 (K : Int), .bool true, .int .u32 (be ((bs.drop A2).take 4) : Nat)]) X1.out 4 _ (by simp)⟩
            case rest =>
            obtain ⟨f4, x1⟩ := hcut
            obtain ⟨Q, hQ⟩ : ∃ Q : Nat, Q = (if q then be ((bs.drop A2).take 4) else 0) := ⟨_, rfl⟩
            rw [← hQ] at x1
            have HQ := Lib.hid hQ
            have x0 := f4.heap XR.out (fun h => NE.out h.symm)
            have F4 := Lib.hid (F3.out.then f4 (by rintro i hi rfl; have := LT.out; omega))
            have HG : Hid (gDec bs = gSize s k K q Q (bs.drop A3)) := Lib.hid (by rw [HD.out, HK.out, HQ.out, HA2.out, HA1.out])
            clear d0 d1 d2 d3 d4 z0 z1 z2 z3 z4 F3 f4 hQ X1 XR
            obtain ⟨d0, d1, d2, d3, d4⟩ := cells5 x1
            obtain ⟨c0, c1, c2, c3, c4⟩ := cells5 x0
            obtain ⟨z0, z1, z2, z3, z4⟩ := free5 x0
            clear x0 x1
            have hdl : (bs.drop A3).length = bs.length - A3 := List.length_drop
            by_cases hs : sizeN ((bs.length - A3 : Nat) : Int) = 0
            · have hz := hs
              unfold sizeN at hz
              have HG2 : Hid (gDec bs = .ok s k K q Q (bs.drop A3)) := Lib.hid (by rw [HG.out, gSize, if_neg (by split at hz <;> omega), if_neg (by split at hz; omega; split at hz <;> omega)])
              have HS := Lib.hid hs
              clear hs hz hdl
              have b1 : (A3 : Int) ≤ (bs.length : Int) := by omega
              go_wp2_with (go_at_call 26; rw [show ((bs.length : Int) - (A3 : Int)) = ((bs.length - A3 : Nat) : Int) by omega]; refine (ref11Size_any _ _).mono ?_; rw [HS.out]; rintro e w6 ⟨rfl, rfl⟩)
              have hex : ({ data := bs.toArray } : ByteArray).extract A3 bs.length = { data := (List.drop A3 bs).toArray } := by rw [extract_str, List.take_of_length_le (by rw [List.length_drop]; exact Nat.le_refl _)]
              have HEX := Lib.hid hex
              clear hex
              go_region
              go_wp2_with fail
              refine bodyPost_ret (v := .tuple #[.agg #[.bool s, .bool k, .int .u32 (K : Int), .bool q, .int .u32 (Q : Int)], .string ⟨(bs.drop A3).toArray⟩, .int .i64 0, .bool false]) (by simp [results, Tryd.results17, go_sem, c0, c1, c2, c3, c4]; exact HEX.out) rfl ?_
              rw [HG2.out]
              exact ⟨rfl, by exact F4.out.drew.set5 (.inr LT.out.1) _ _ _ _ _⟩
            · have HG2 : Hid (gDec bs = .no false (sizeN ((bs.length - A3 : Nat) : Int))) := Lib.hid (by
                rw [HG.out, gSize, hdl]
                unfold sizeN at hs ⊢
                by_cases g1 : bs.length - A3 < 14
                · rw [if_pos g1, if_pos (by omega)]
                · by_cases g2 : 9000 < bs.length - A3
                  · rw [if_neg g1, if_pos g2, if_neg (by omega), if_pos (by omega)]
                  · rw [if_neg (by omega), if_neg (by omega)] at hs
                    exact absurd rfl hs)
              have hne : ¬ sizeN ((bs.length - A3 : Nat) : Int) = 0 := hs
              clear hs hdl
              go_wp2_with (go_at_call 26; rw [show ((bs.length : Int) - (A3 : Int)) = ((bs.length - A3 : Nat) : Int) by omega]; refine (ref11Size_any _ _).mono ?_; rintro e w6 ⟨rfl, rfl⟩)
              refine bodyPost_ret (v := .tuple #[zeroH, .string ⟨#[]⟩, .int .i64 (sizeN ((bs.length - A3 : Nat) : Int)), .bool false]) (by simp [results, Tryd.results17, go_sem, zeroH, c0, c1, c2, c3, c4]) rfl ?_
              rw [HG2.out]
              exact ⟨rfl, by exact F4.out.set5 (.inr LT.out.1) _ _ _ _ _⟩
      · have HG : Hid (gDec bs = .no false 12) := Lib.hid (by rw [HD.out, if_neg (by simpa using H1.out), if_pos h2])
        by_cases h21 : c.toNat = 101
        · have k4 : (c.toNat : Int) = 101 := by omega
          have k5 : ¬ (d.toNat : Int) = 88 := by omega
          clear h2
          go_wp2_with fail
          refine bodyPost_ret (v := .tuple #[zeroH, .string ⟨#[]⟩, .int .i64 12, .bool false]) (by simp [results, Tryd.results17, go_sem, zeroH, c0, c1, c2, c3, c4]) rfl ?_
          rw [HG.out]
          exact ⟨rfl, by exact F0.out.set5 (.inr (Nat.le_refl _)) _ _ _ _ _⟩
        · have k4 : ¬ (c.toNat : Int) = 101 := by omega
          clear h2
          go_wp2_with fail
          refine bodyPost_ret (v := .tuple #[zeroH, .string ⟨#[]⟩, .int .i64 12, .bool false]) (by simp [results, Tryd.results17, go_sem, zeroH, c0, c1, c2, c3, c4]) rfl ?_
          rw [HG.out]
          exact ⟨rfl, by exact F0.out.set5 (.inr (Nat.le_refl _)) _ _ _ _ _⟩
    · have HG : Hid (gDec bs = .no false 3) := Lib.hid (by rw [HD.out, if_pos h1])
      by_cases h11 : a.toNat % 16 = 0
      · by_cases h12 : a.toNat / 64 % 2 = 0
        · have k1 : (a.toNat : Int) % 16 = 0 := by omega
          have k2 : (a.toNat : Int) / 64 % 2 = 0 := by omega
          have k3 : ¬ (b.toNat : Int) = 0 := by omega
          clear h1
          go_wp2_with fail
          refine bodyPost_ret (v := .tuple #[zeroH, .string ⟨#[]⟩, .int .i64 3, .bool false]) (by simp [results, Tryd.results17, go_sem, zeroH, c0, c1, c2, c3, c4]) rfl ?_
          rw [HG.out]
          exact ⟨rfl, by exact F0.out.set5 (.inr (Nat.le_refl _)) _ _ _ _ _⟩
        · have k1 : (a.toNat : Int) % 16 = 0 := by omega
          have k2 : ¬ (a.toNat : Int) / 64 % 2 = 0 := by omega
          clear h1
          go_wp2_with fail
          refine bodyPost_ret (v := .tuple #[zeroH, .string ⟨#[]⟩, .int .i64 3, .bool false]) (by simp [results, Tryd.results17, go_sem, zeroH, c0, c1, c2, c3, c4]) rfl ?_
          rw [HG.out]
          exact ⟨rfl, by exact F0.out.set5 (.inr (Nat.le_refl _)) _ _ _ _ _⟩
      · have k1 : ¬ (a.toNat : Int) % 16 = 0 := by omega
        clear h1
        go_wp2_with fail
        refine bodyPost_ret (v := .tuple #[zeroH, .string ⟨#[]⟩, .int .i64 3, .bool false]) (by simp [results, Tryd.results17, go_sem, zeroH, c0, c1, c2, c3, c4]) rfl ?_
        rw [HG.out]
        exact ⟨rfl, by exact F0.out.set5 (.inr (Nat.le_refl _)) _ _ _ _ _⟩

end Go.Proofs.YtghjcgpdmlfmjaaDoor

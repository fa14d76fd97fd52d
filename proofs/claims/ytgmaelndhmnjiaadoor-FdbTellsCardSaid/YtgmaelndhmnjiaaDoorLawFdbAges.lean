/- FdbAges. -/
import Derived.Test.YtgmaelndhmnjiaaDoorFd26
import Derived.Laws.Bits64b
namespace Go.Proofs.YtgmaelndhmnjiaaDoor
open Go.RowKit
set_option linter.unusedVariables false
set_option linter.unusedSimpArgs false

theorem u64_mask62 (x : Int) (h0 : 0 ≤ x) (h1 : x < 18446744073709551616) : ∃ k, bits .and .u64 x 4611686018427387903 = k ∧ 0 ≤ k ∧ k < 4611686018427387904 := by
  refine ⟨_, rfl, ?_⟩
  have h := bits_and_u64_nat x.toNat 4611686018427387903 (by omega) (by omega)
  rw [show ((x.toNat : Nat) : Int) = x by omega, show ((4611686018427387903 : Nat) : Int) = 4611686018427387903 from rfl] at h
  rw [h]
  have := Nat.and_le_right (n := x.toNat) (m := 4611686018427387903)
  omega
theorem alearn_nil {room : Int} {m : Mac} {p : Pl} {now : Int} (hm : grpM m = false) (hr : 1 ≤ room) : alearn room [] m p now = (false, 0, [⟨m, p.tun, p.n, now, false⟩]) := by
  unfold alearn aadd
  rw [hm]
  simp [aget, aput]
  omega
theorem age_old {lf nw bb : Int} (m : Mac) (p : Pl) (hb : 0 ≤ bb) : oldE lf ⟨m, p.tun, p.n, nw, false⟩ (nw + bb) = decide (lf ≤ bb) := by
  unfold oldE
  simp only [Bool.not_false, Bool.true_and]
  rw [show min (nw + bb) nw = nw by omega, show nw + bb - nw = bb by omega]
def ShownF (w : World) (e : Ending) (w' : World) : Prop := e = .returned (.bool true) ∧ Fr No w w'
set_option maxRecDepth 100000 in
set_option maxHeartbeats 4000000 in
theorem FdbAges_walk {w : World} (hg : EG w) (m : Mac) {life now by_ : Int} (hl0 : 0 ≤ life) (hl1 : life < 18446744073709551616) (hn0 : 0 ≤ now) (hn1 : now < 18446744073709551616) (hb0 : 0 ≤ by_) (hb1 : by_ < 18446744073709551616) :
    Calls Tryd.prog 4 #[evM m, .int .u64 life, .int .u64 now, .int .u64 by_] w (ShownF w) := by
  have HGA := Lib.hid hg
  clear hg
  obtain ⟨nw, hnw, hw0, hw1⟩ := u64_mask62 now hn0 hn1
  unfold evM byteV
  go_enter Tryd.func4, Tryd.ntmps4
  go_wp2_with fail
  have B1 := Lib.hid (heap_alloc_new w (.cells #[.int .u8 m.a.toNat, .int .u8 m.b.toNat, .int .u8 m.c.toNat, .int .u8 m.d.toNat, .int .u8 m.e.toNat, .int .u8 m.f.toNat] 31))
  have F1 := Lib.hid ((Fr.refl No w).alloc (.cells #[.int .u8 m.a.toNat, .int .u8 m.b.toNat, .int .u8 m.c.toNat, .int .u8 m.d.toNat, .int .u8 m.e.toNat, .int .u8 m.f.toNat] 31))
  generalize World.alloc _ _ = w1 at B1 F1 ⊢
  refine (l15shown_any (HGA.out.no F1.out)).mono ?_
  rintro e w2 ⟨rfl, f2⟩
  have B2 := Lib.hid (f2.heap B1.out (fun h => h))
  have F2 := Lib.hid (F1.out.then_no f2)
  clear f2 B1 F1
  go_wp2_with fail
  obtain ⟨lf, hlf⟩ : ∃ x, 1 + life % 1000 = x := ⟨_, rfl⟩
  obtain ⟨bb, hbb⟩ : ∃ x, by_ % 2000 = x := ⟨_, rfl⟩
  have lf0 : 1 ≤ lf := by omega
  have lf1 : lf ≤ 1000 := by omega
  have bb0 : 0 ≤ bb := by omega
  have bb1 : bb < 2000 := by omega
  rw [hlf, hbb]
  clear hlf hbb hnw hl0 hl1 hn0 hn1 hb0 hb1
  refine (fbNew_n w2 4 lf (by omega) (by omega) (r := 4) (by decide)).mono ?_
  rintro e w3 ⟨tb, mb, rfl, h3, f3⟩
  have H3 := Lib.hid h3
  have S2 := Lib.hid F2.out.size
  have B3 := Lib.hid (f3.heap B2.out (fun h => h))
  have F3 := Lib.hid (F2.out.then_no f3)
  clear h3 f3 F2 B2
  obtain ⟨c0, c1, c2, c3, c4, c5⟩ := cells6 B3.out
  go_wp2_with fail
  refine (fbGroup_any m w3).mono ?_
  rintro e w4 ⟨rfl, f4⟩
  have H4 := Lib.hid (H3.out.no f4)
  have F4 := Lib.hid (F3.out.then_no f4)
  have B4 := Lib.hid (f4.heap B3.out (fun h => h))
  clear f4 H3 F3 B3 c0 c1 c2 c3 c4 c5
  obtain ⟨gm, hgm⟩ : ∃ g, grpM m = g := ⟨_, rfl⟩
  rw [hgm]
  have HGM := Lib.hid hgm
  clear hgm
  cases gm
  · obtain ⟨c0, c1, c2, c3, c4, c5⟩ := cells6 B4.out
    go_wp2_with fail
    refine (fbLearn_n H4.out m ⟨false, 1⟩ (now := nw) (by omega) (by omega) (by decide) (alearn_nil HGM.out (by omega))).mono ?_
    rintro e w5 ⟨rfl, h5, f5, k5⟩
    have H5 := Lib.hid h5
    have F5 := Lib.hid (F4.out.upb S2.out f5)
    have B5 := Lib.hid (k5 _ _ B4.out rfl)
    clear h5 f5 k5 H4 F4 B4 c0 c1 c2 c3 c4 c5
    obtain ⟨c0, c1, c2, c3, c4, c5⟩ := cells6 B5.out
    have hsum : (0 : Int) ≤ nw + bb := by omega
    go_wp2_with fail
    have hold := age_old (lf := lf) (nw := nw) m ⟨false, 1⟩ bb0
    by_cases hgo : lf ≤ bb
    · have hd : decide (lf ≤ bb) = true := by simpa using hgo
      rw [hd] at hold
      have hfi : afind lf [⟨m, false, 1, nw, false⟩] m (nw + bb) = none := by simp [afind, aget, hold]
      have hti : atick lf [⟨m, false, 1, nw, false⟩] (nw + bb) = [] := by simp [atick, hold]
      have HT := Lib.hid hti
      refine (fbFind_n H5.out m (now := nw + bb) (by omega) (by omega) hfi).mono ?_
      rintro e w6 ⟨rfl, f6⟩
      have H6 := Lib.hid (H5.out.no (f6.then_no ((Fr.refl No w6).alloc (.cells #[.bool false, .int .i64 0] 33))))
      have F6 := Lib.hid (F5.out.then_no (f6.then_no ((Fr.refl No w6).alloc (.cells #[.bool false, .int .i64 0] 33))))
      clear hold hfi hti f6 H5 F5 B5 c0 c1 c2 c3 c4 c5
      simp only [Option.getD_none, Option.isSome_none, evPL]
      go_wp2_with fail
      refine (fbTick_n H6.out (now := nw + bb) (by omega) (by omega) (c := 1) (by rw [HT.out]; rfl)).mono ?_
      rw [HT.out]
      rintro e w7 ⟨rfl, h7, f7, k7⟩
      have H7 := Lib.hid h7
      have F7 := Lib.hid (F6.out.upb S2.out f7)
      clear h7 f7 k7 H6 F6
      go_wp2_with fail
      refine (fbList_n H7.out).mono ?_
      rintro e w8 ⟨ao, cap, rfl, ho, hn, f8⟩
      have F8 := Lib.hid (F7.out.then_no f8)
      clear ho hn f8 H7 F7
      rw [show ([] : AL).length = 0 from rfl]
      go_wp2_with fail
      go_ret
      exact ⟨rfl, F8.out⟩
    · have hd : decide (lf ≤ bb) = false := by simpa using hgo
      rw [hd] at hold
      have hfi : afind lf [⟨m, false, 1, nw, false⟩] m (nw + bb) = some ⟨false, 1⟩ := by simp [afind, aget, hold, En.pl]
      have hti : atick lf [⟨m, false, 1, nw, false⟩] (nw + bb) = [⟨m, false, 1, nw, false⟩] := by simp [atick, hold]
      have HT := Lib.hid hti
      refine (fbFind_n H5.out m (now := nw + bb) (by omega) (by omega) hfi).mono ?_
      rintro e w6 ⟨rfl, f6⟩
      have H6 := Lib.hid (H5.out.no (f6.then_no ((Fr.refl No w6).alloc (.cells #[.bool false, .int .i64 1] 33))))
      have F6 := Lib.hid (F5.out.then_no (f6.then_no ((Fr.refl No w6).alloc (.cells #[.bool false, .int .i64 1] 33))))
      clear hold hfi hti f6 H5 F5 B5 c0 c1 c2 c3 c4 c5
      simp only [Option.getD_some, Option.isSome_some, evPL]
      go_wp2_with fail
      refine (fbTick_n H6.out (now := nw + bb) (by omega) (by omega) (c := 0) (by rw [HT.out]; rfl)).mono ?_
      rw [HT.out]
      rintro e w7 ⟨rfl, h7, f7, k7⟩
      have H7 := Lib.hid h7
      have F7 := Lib.hid (F6.out.upb S2.out f7)
      clear h7 f7 k7 H6 F6
      go_wp2_with fail
      refine (fbList_n H7.out).mono ?_
      rintro e w8 ⟨ao, cap, rfl, ho, hn, f8⟩
      have F8 := Lib.hid (F7.out.then_no f8)
      clear ho hn f8 H7 F7
      rw [show ([⟨m, false, 1, nw, false⟩] : AL).length = 1 from rfl]
      go_wp2_with fail
      go_ret
      exact ⟨rfl, F8.out⟩
  · go_wp2_with fail
    go_ret
    exact ⟨rfl, F4.out⟩
end Go.Proofs.YtgmaelndhmnjiaaDoor

/- GreSums: its walk. -/
import Derived.Test.YtghjcgpdmlfmjaaLawGreBack
import Derived.Test.YtghjcgpdmlfmjaaBits
import Derived.Test.YtghjcgpdmlfmjaaStore
import Derived.Deep.RegionWith
namespace Go.Proofs.Ytghjcgpdmlfmjaa
open Go.RowKit
set_option linter.unusedVariables false

theorem few13_same (ao : Option Addr) (n cap m : Nat) (hm : m = min n 10000) (h : n ≤ cap) (hc : cap ≤ 9223372036854775807) (w : World) : Calls Try.prog 19 #[.slice ao n cap] w fun e w' => e = .returned (.slice ao m cap) ∧ w' = w :=
  (few13_any ao n cap h hc w).mono fun _ _ h => ⟨by rw [hm]; exact h.1, h.2.symm⟩

theorem u8_xor_ne (a b : UInt8) (h : b ≠ 0) : a ^^^ b ≠ a := by
  intro e
  apply h
  have : a ^^^ (a ^^^ b) = a ^^^ a := by rw [e]
  simpa [← UInt8.xor_assoc] using this

set_option maxHeartbeats 1600000 in
set_option maxRecDepth 100000 in
theorem gSums_ok {w : World} {ao : Option Addr} {n cap : Nat} {fs : List UInt8} (s0 k : Bool) (key : Nat) (q : Bool) (seq : Nat) (at_ : Int) (by_ : UInt8) (hk : key < 4294967296) (hq : seq < 4294967296) (hb : Bs w ao n cap fs) (h1 : 14 ≤ n) (h2 : n ≤ 9000) :
    Calls Try.prog 8 #[.agg #[.bool s0, .bool k, .int .u32 key, .bool q, .int .u32 seq], .slice ao n cap, .int .i64 at_, .int .u8 by_.toNat] w (LawOk w) := by
  have hle := hb.2.le
  have hcc := hb.2.capLe
  have HB := Lib.hid hb
  have hm : n = min n 10000 := by omega
  have HM := Lib.hid hm
  have hN : fs.length = n := hb.1.symm
  have HN := Lib.hid hN
  clear hb hm hN
  have X0 := Lib.hid (heap_alloc_new w (.cells #[.bool s0, .bool k, .int .u32 key, .bool q, .int .u32 seq] 38))
  have F0 := Lib.hid ((Fr.refl No w).alloc (.cells #[.bool s0, .bool k, .int .u32 key, .bool q, .int .u32 seq] 38))
  obtain ⟨hd, hhd⟩ : ∃ hd, hd = greHead true k q := ⟨_, rfl⟩
  have hd1 : 4 ≤ hd ∧ hd ≤ 16 := by rw [hhd]; exact greHead_le _ _ _
  obtain ⟨a16, h16⟩ : ∃ a16 : Nat, bits .and .i64 at_ 65535 = (a16 : Int) := ⟨(at_ % 65536).toNat, by rw [i64_mask16]; omega⟩
  obtain ⟨j, hj, hjn⟩ : ∃ j : Nat, (a16 : Int) % ((hd : Int) + (n : Int) - 4) = (j : Int) ∧ j < hd + n - 4 := ⟨a16 % (hd + n - 4), by
    rw [show (hd : Int) + (n : Int) - 4 = ((hd + n - 4 : Nat) : Int) by omega, Int.natCast_emod], Nat.mod_lt a16 (show 0 < hd + n - 4 by omega)⟩
  have HHD := Lib.hid hhd
  go_enter Try.func8, Try.ntmps8
  go_wp2_with fail
  clear hhd
  refine (shown13_any _).mono ?_
  rintro e w1 ⟨rfl, f1⟩
  have F1 := Lib.hid (F0.out.then_no f1)
  have X1 := Lib.hid (f1.heap X0.out (fun h => h))
  clear f1 X0 F0
  obtain ⟨c0, c1, c2, c3, c4⟩ := cells5 X1.out
  obtain ⟨z0, z1, z2, z3, z4⟩ := free5 X1.out
  go_upto_region 3 with fail
  have F2 := Lib.hid (F1.out.setCell (p := ⟨w.heap.size, 0, none⟩) (.inr (Nat.le_refl _)) (.bool true))
  have X2 := Lib.hid (set_row X1.out 0 (.bool true) rfl)
  generalize w1.setCell ⟨w.heap.size, 0, none⟩ (.bool true) = w2 at *
  clear F1 X1 c0 c1 c2 c3 c4 z0 z1 z2 z3 z4
  obtain ⟨c0, c1, c2, c3, c4⟩ := cells5 X2.out
  go_cut [10, 11] (fun s10 s11 wc => ∃ g c, s10 = .slice (some ⟨g, 0, none⟩) (hd + n) c ∧ s11 = .nilIface ∧ OB wc 5 (some ⟨g, 0, none⟩) (hd + n) c (greOut true k key q seq fs) ∧ Fr No w wc ∧ w.heap.size ≤ g)
  case first =>
    go_region_with (first
      | (go_at_call 19; refine (few13_same ao n cap n HM.out hle hcc _).mono ?_; rintro e w4 ⟨rfl, rfl⟩)
      | (go_at_call 20; refine (gEncap_ok true k key q seq (by omega) (by omega) (by omega) (by omega) (HB.out.no (F2.out.drew)) h1 h2 (m := hd + n) (by rw [HHD.out])).mono ?_; rintro e w4 ⟨g, c, rfl, o4, f4, h4⟩))
    all_goals (go_wp2_with fail)
    all_goals go_meet
    all_goals exact ⟨g, c, rfl, rfl, o4, F2.out.drew.then_no f4, Nat.le_trans F2.out.drew.size h4⟩
  case rest =>
    obtain ⟨g, c, rfl, rfl, o4, f4, h4⟩ := hcut
    have O4 := Lib.hid o4
    have F4 := Lib.hid f4
    clear o4 f4 F2 X2 c0 c1 c2 c3 c4
    by_cases hb0 : by_ = 0
    · subst hb0
      rw [show ((0 : UInt8).toNat : Int) = 0 from rfl]
      go_wp2_with fail
      go_ret
      exact ⟨rfl, F4.out⟩
    · have hb1 : ((by_.toNat : Int) == 0) = false := by
        have : by_.toNat ≠ 0 := fun h => hb0 (UInt8.toNat_inj.1 h)
        simp; omega
      have hlen : (greOut true k key q seq fs).length = hd + n := by rw [greOut_length, HHD.out, HN.out]
      obtain ⟨i, hi⟩ : ∃ i, i = 4 + j := ⟨_, rfl⟩
      have hji : (4 : Int) + (j : Int) = (i : Int) := by omega
      have hil : i < (greOut true k key q seq fs).length := by omega
      obtain ⟨x, hx⟩ : ∃ x, x = (greOut true k key q seq fs)[i] := ⟨_, rfl⟩
      have hxs : (greOut true k key q seq fs)[i]? = some x := by rw [List.getElem?_eq_getElem hil, hx]
      have hcell : wc.cell? ⟨g, i, none⟩ = some (.int .u8 (x.toNat : Int)) := by simpa [Addr.add, show i ≠ 0 by omega] using O4.out.bs.at hxs
      obtain ⟨y, hy⟩ : ∃ y, y = x ^^^ by_ := ⟨_, rfl⟩
      have hxor : bits .xor .u8 (x.toNat : Int) (by_.toNat : Int) = (y.toNat : Int) := by
        have h1 := x.toNat_lt
        have h2 := by_.toNat_lt
        rw [hy, u8_xor_nat _ _ (by omega) (by omega), UInt8.toNat_xor]
      have HD := Lib.hid (gDec_sums k q key seq hk hq fs i (by omega) y rfl hil (by rw [← hx, hy]; exact u8_xor_ne x by_ hb0))
      obtain ⟨o5, f5, ⟨u, x3⟩, z3⟩ := O4.out.store i (by omega) y
      simp only [byteV] at o5 f5
      have O5 := Lib.hid o5
      have F5 := Lib.hid (F4.out.then f5 (by rintro i hi rfl; omega))
      have hin : i < hd + n := by omega
      have HI := Lib.hid hi
      clear o5 f5 hx hxs x3 hlen hil hi hb0 HB HM hy
      go_wp2_with fail
      generalize wc.setCell ⟨g, i, none⟩ (.int .u8 (y.toNat : Int)) = w5 at *
      refine (gDecap_any O5.out.bs (by omega)).mono ?_
      rintro e w6 hr
      obtain ⟨v, rfl, he, f6⟩ := hr.is HD.out
      obtain ⟨b5, rfl⟩ := Err.is_wrong (s := greS) he
      have HE := Lib.hid (he.no ((Fr.refl No w6).alloc (.cells #[.bool false, .bool false, .int .u32 0, .bool false, .int .u32 0] 38)))
      have F6 := Lib.hid ((F5.out.then_no f6).alloc (.cells #[.bool false, .bool false, .int .u32 0, .bool false, .int .u32 0] 38))
      clear he f6 hr O5 F5 hcell z3 hxor hb1
      simp only [zeroH]
      go_wp2_with (go_at_call 17; refine (errIs_any HE.out 4).mono ?_; rintro e w7 ⟨rfl, rfl⟩)
      go_ret
      exact ⟨rfl, F6.out⟩

set_option maxHeartbeats 1600000 in
set_option maxRecDepth 100000 in
theorem gSums_size {w : World} {ao : Option Addr} {n cap : Nat} (s0 k : Bool) (key : Int) (q : Bool) (seq : Int) (at_ by_ : Int) (hn : n < 14 ∨ 9000 < n) (hle : n ≤ cap) (hcc : cap ≤ 9223372036854775807) :
    Calls Try.prog 8 #[.agg #[.bool s0, .bool k, .int .u32 key, .bool q, .int .u32 seq], .slice ao n cap, .int .i64 at_, .int .u8 by_] w (LawOk w) := by
  obtain ⟨m, hm⟩ : ∃ m, m = min n 10000 := ⟨_, rfl⟩
  have hmn : m < 14 ∨ 9000 < m := by omega
  have HM := Lib.hid hm
  have X0 := Lib.hid (heap_alloc_new w (.cells #[.bool s0, .bool k, .int .u32 key, .bool q, .int .u32 seq] 38))
  have F0 := Lib.hid ((Fr.refl No w).alloc (.cells #[.bool s0, .bool k, .int .u32 key, .bool q, .int .u32 seq] 38))
  have hkey : ∃ j : Int, ∀ (wx : World) (a : Option Addr) (c : Nat), Calls Try.prog 20 #[.agg #[.bool true, .bool k, .int .u32 key, .bool q, .int .u32 seq], .slice a m c] wx (GNo wx [greS] j) := by
    rcases hmn with h | h
    · exact ⟨2, fun wx a c => gEncap_short true k key q seq h⟩
    · exact ⟨7, fun wx a c => gEncap_big true k key q seq h⟩
  obtain ⟨j, hkey⟩ := hkey
  have HK := Lib.hid hkey
  clear hm hn hkey hmn
  go_enter Try.func8, Try.ntmps8
  go_wp2_with fail
  refine (shown13_any _).mono ?_
  rintro e w1 ⟨rfl, f1⟩
  have F1 := Lib.hid (F0.out.then_no f1)
  have X1 := Lib.hid (f1.heap X0.out (fun h => h))
  clear f1 X0 F0
  obtain ⟨c0, c1, c2, c3, c4⟩ := cells5 X1.out
  obtain ⟨z0, z1, z2, z3, z4⟩ := free5 X1.out
  go_upto_region 3 with fail
  have F2 := Lib.hid (F1.out.setCell (p := ⟨w.heap.size, 0, none⟩) (.inr (Nat.le_refl _)) (.bool true))
  have X2 := Lib.hid (set_row X1.out 0 (.bool true) rfl)
  generalize w1.setCell ⟨w.heap.size, 0, none⟩ (.bool true) = w2 at *
  clear F1 X1 c0 c1 c2 c3 c4 z0 z1 z2 z3 z4
  obtain ⟨c0, c1, c2, c3, c4⟩ := cells5 X2.out
  go_cut [10, 11] (fun s10 s11 wc => ∃ b, s10 = .slice none 0 0 ∧ s11 = .iface 79 (.pointer (some ⟨b, 0, none⟩)) ∧ Fr No w wc)
  case first =>
    go_region_with (first
      | (go_at_call 19; refine (few13_same ao n cap m HM.out hle hcc _).mono ?_; rintro e w4 ⟨rfl, rfl⟩)
      | (go_at_call 20; refine (HK.out _ _ _).mono ?_; rintro e w4 ⟨b, rfl, he, f4⟩))
    all_goals (go_wp2_with fail)
    all_goals go_meet
    all_goals exact ⟨b, rfl, rfl, F2.out.drew.then_no f4⟩
  case rest =>
    obtain ⟨b, rfl, rfl, f4⟩ := hcut
    have F4 := Lib.hid f4
    clear f4 F2 X2 c0 c1 c2 c3 c4
    go_wp2_with fail
    go_ret
    exact ⟨rfl, F4.out⟩

theorem GreSums_walk {w : World} {ao : Option Addr} {n cap : Nat} {fs : List UInt8} (s k : Bool) (key : Nat) (q : Bool) (seq : Nat) (at_ : Int) (by_ : UInt8) (hk : key < 4294967296) (hq : seq < 4294967296) (hb : Bs w ao n cap fs) :
    Calls Try.prog 8 #[.agg #[.bool s, .bool k, .int .u32 key, .bool q, .int .u32 seq], .slice ao n cap, .int .i64 at_, .int .u8 by_.toNat] w (LawOk w) := by
  by_cases h2 : 14 ≤ n ∧ n ≤ 9000
  · exact gSums_ok s k key q seq at_ by_ hk hq hb h2.1 h2.2
  · exact gSums_size s k key q seq at_ _ (by omega) hb.2.le hb.2.capLe

end Go.Proofs.Ytghjcgpdmlfmjaa

/- GreCuts: its walk. -/
import Derived.Test.YtghjcgpdmlfmjaaLawGreBack
import Derived.Test.YtghjcgpdmlfmjaaBits
namespace Go.Proofs.Ytghjcgpdmlfmjaa
open Go.RowKit
set_option linter.unusedVariables false

set_option maxRecDepth 100000 in
theorem gCuts_ok {w : World} {ao : Option Addr} {n cap : Nat} {fs : List UInt8} (s0 k : Bool) (key : Nat) (q : Bool) (seq : Nat) (at_ : Int) (hk : key < 4294967296) (hq : seq < 4294967296) (hb : Bs w ao n cap fs) (h1 : 14 ≤ n) (h2 : n ≤ 9000) :
    Calls Try.prog 12 #[.agg #[.bool s0, .bool k, .int .u32 key, .bool q, .int .u32 seq], .slice ao n cap, .int .i64 at_] w (LawOk w) := by
  have hle := hb.2.le
  have hcc := hb.2.capLe
  have HB := Lib.hid hb
  have hm : min n 10000 = n := by omega
  have HM := Lib.hid hm
  have hN : fs.length = n := hb.1.symm
  have HN := Lib.hid hN
  clear hb hm hN
  have X0 := Lib.hid (heap_alloc_new w (.cells #[.bool s0, .bool k, .int .u32 key, .bool q, .int .u32 seq] 38))
  have F0 := Lib.hid ((Fr.refl No w).alloc (.cells #[.bool s0, .bool k, .int .u32 key, .bool q, .int .u32 seq] 38))
  have hcv := fun (wx : World) (a : Option Addr) (m c : Nat) (bs : List UInt8) (h : Bs wx a m c bs) => run_bytes_string (P := Try.prog) wx 23 9 5 h Try.underlying23 Try.underlying5 Try.underlying9
  have HCV := Lib.hid hcv
  clear hcv
  obtain ⟨hd, hhd⟩ : ∃ hd, hd = greHead false k q := ⟨_, rfl⟩
  have hd1 : 4 ≤ hd ∧ hd ≤ 16 := by rw [hhd]; exact greHead_le _ _ _
  obtain ⟨a16, h16⟩ : ∃ a16 : Nat, bits .and .i64 at_ 65535 = (a16 : Int) := ⟨(at_ % 65536).toNat, by rw [i64_mask16]; omega⟩
  obtain ⟨j, hj, hjn⟩ : ∃ j : Nat, (a16 : Int) % ((hd : Int) + (n : Int) + 1) = (j : Int) ∧ j ≤ hd + n := ⟨a16 % (hd + n + 1), by rw [Int.natCast_emod]; rfl, by have := Nat.mod_lt a16 (show 0 < hd + n + 1 by omega); omega⟩
  have HHD := Lib.hid hhd
  go_enter Try.func12, Try.ntmps12
  go_wp2_with fail
  clear hhd
  refine (shown13_any _).mono ?_
  rintro e w1 ⟨rfl, f1⟩
  have F1 := Lib.hid (F0.out.then_no f1)
  have X1 := Lib.hid (f1.heap X0.out (fun h => h))
  clear f1 X0 F0
  obtain ⟨c0, c1, c2, c3, c4⟩ := cells5 X1.out
  obtain ⟨z0, z1, z2, z3, z4⟩ := free5 X1.out
  go_wp2_with (go_at_call 19; refine (few13_any _ _ _ hle hcc _).mono ?_; rw [HM.out]; rintro e w2 ⟨rfl, rfl⟩)
  have F2 := Lib.hid (F1.out.setCell (p := ⟨w.heap.size, 0, none⟩) (.inr (Nat.le_refl _)) (.bool false))
  have X2 := Lib.hid (set_row X1.out 0 (.bool false) rfl)
  generalize w1.setCell ⟨w.heap.size, 0, none⟩ (.bool false) = w2 at *
  clear F1 X1
  refine (gEncap_ok false k key q seq (by omega) (by omega) (by omega) (by omega) (HB.out.no F2.out) h1 h2 (m := hd + n) (by rw [HHD.out])).mono ?_
  rintro e w3 ⟨g, c, rfl, o3, f3, h3⟩
  have O3 := Lib.hid o3
  have F3 := Lib.hid (F2.out.then_no f3)
  have hc3 := o3.2.le
  have hc3' := o3.2.capLe
  clear o3 f3 h3 F2 X2 c0 c1 c2 c3 c4 z0 z1 z2 z3 z4
  go_wp2_with fail
  have b3 : Bs w3 (some ⟨g, 0, none⟩) j c ((greOut false k key q seq fs).take j) := by
    have := O3.out.bs.cut 0 j c (by omega) (by omega) (by omega) (by omega) (a' := some ⟨g, 0, none⟩) (by simp [Addr.add])
    simpa using this
  have B3 := Lib.hid b3
  clear b3
  obtain ⟨D1, D2⟩ := gDec_cut k q key seq fs (by rw [HN.out]; exact h2) j (by rw [HN.out, ← HHD.out]; exact hjn) rfl
  rw [← HHD.out] at D1 D2
  have D1 := Lib.hid D1
  have D2 := Lib.hid D2
  refine (gDecap_any B3.out (by omega)).mono ?_
  rintro e w4 hr
  by_cases hlt : j < hd + 14
  · obtain ⟨inner, hg⟩ := D1.out hlt
    obtain ⟨v, rfl, he, f4⟩ := hr.is hg
    have HE := Lib.hid (he.no ((Fr.refl No w4).alloc (.cells #[.bool false, .bool false, .int .u32 0, .bool false, .int .u32 0] 38)))
    have F4 := Lib.hid ((F3.out.then_no f4).alloc (.cells #[.bool false, .bool false, .int .u32 0, .bool false, .int .u32 0] 38))
    obtain ⟨b5, rfl⟩ := Err.is_wrong (s := greS) he
    clear he f4 hr hg B3 O3
    simp only [zeroH]
    go_wp2_with (go_at_call 17; refine (errIs_any HE.out 2).mono ?_; rintro e w6 ⟨rfl, rfl⟩)
    go_ret
    exact ⟨rfl, F4.out⟩
  · obtain ⟨x, y, hg⟩ := D2.out (by omega)
    obtain ⟨g4, c4, rfl, o4, f4, h4⟩ := hr.is hg
    obtain ⟨m, hmj⟩ : ∃ m, m = j - hd := ⟨_, rfl⟩
    have hjm : (j : Int) = hd + m := by omega
    have hw1 : IntKind.i64.wrap ((j : Int) - ((hd : Int) + 14)) = (m : Int) - 14 := by rw [IntKind.wrap_i64]; omega
    have hw2 : IntKind.i64.wrap ((m : Int) - 14 + 14) = (m : Int) := by rw [IntKind.wrap_i64]; omega
    have hw3 : IntKind.i64.wrap (m : Int) = (m : Int) := by rw [IntKind.wrap_i64]; omega
    rw [← hmj] at o4
    have hmn : m ≤ n := by omega
    have HMJ := Lib.hid hmj
    have HJM := Lib.hid hjm
    have hl4 : (fs.take m).length = m := by rw [List.length_take, HN.out]; omega
    rw [← hmj]
    rw [hl4] at o4 ⊢
    have fa := (Fr.refl No w4).alloc (.cells #[.bool false, .bool k, .int .u32 x, .bool q, .int .u32 y] 38)
    have F4 := Lib.hid ((F3.out.then_no f4).then_no fa)
    have s1 := fun nq => HCV.out ((w4.alloc (.cells #[.bool false, .bool k, .int .u32 x, .bool q, .int .u32 y] 38)).drewN nq) _ _ _ _ (o4.no (fa.drewN nq)).bs
    have b2 : Bs (w4.alloc (.cells #[.bool false, .bool k, .int .u32 x, .bool q, .int .u32 y] 38)) ao m cap (fs.take m) := by
      have := (HB.out.no F4.out).cut 0 m cap (by omega) (by omega) (by omega) (by omega) (a' := ao) (by cases ao <;> simp [Addr.add])
      simpa using this
    have s2 := fun nq => HCV.out ((w4.alloc (.cells #[.bool false, .bool k, .int .u32 x, .bool q, .int .u32 y] 38)).drewN nq) _ _ _ _ (b2.no ((Fr.refl _ _).drewN nq))
    have hge : hd + 14 ≤ j := by omega
    clear o4 f4 h4 b2 hr hg fa hl4 B3 O3 hmj hjm
    go_wp2_with fail
    go_quiet (fail)
    go_wp2_with fail
    go_ret
    exact ⟨rfl, F4.out.drewN _⟩

theorem gCuts_size {w : World} {ao : Option Addr} {n cap : Nat} (s0 k : Bool) (key : Int) (q : Bool) (seq : Int) (at_ : Int) (hn : n < 14 ∨ 9000 < n) (hle : n ≤ cap) (hcc : cap ≤ 9223372036854775807) :
    Calls Try.prog 12 #[.agg #[.bool s0, .bool k, .int .u32 key, .bool q, .int .u32 seq], .slice ao n cap, .int .i64 at_] w (LawOk w) := by
  obtain ⟨m, hm⟩ : ∃ m, m = min n 10000 := ⟨_, rfl⟩
  have hmn : m < 14 ∨ 9000 < m := by omega
  have HM := Lib.hid hm
  have X0 := Lib.hid (heap_alloc_new w (.cells #[.bool s0, .bool k, .int .u32 key, .bool q, .int .u32 seq] 38))
  have F0 := Lib.hid ((Fr.refl No w).alloc (.cells #[.bool s0, .bool k, .int .u32 key, .bool q, .int .u32 seq] 38))
  have hkey : ∀ (wx : World) (a : Option Addr) (c : Nat), ∃ j : Int, Calls Try.prog 20 #[.agg #[.bool false, .bool k, .int .u32 key, .bool q, .int .u32 seq], .slice a m c] wx (GNo wx [greS] j) := by
    intro wx a c
    rcases hmn with h | h
    · exact ⟨2, gEncap_short false k key q seq h⟩
    · exact ⟨7, gEncap_big false k key q seq h⟩
  have HK := Lib.hid hkey
  clear hm hn hkey hmn
  go_enter Try.func12, Try.ntmps12
  go_wp2_with fail
  refine (shown13_any _).mono ?_
  rintro e w1 ⟨rfl, f1⟩
  have F1 := Lib.hid (F0.out.then_no f1)
  have X1 := Lib.hid (f1.heap X0.out (fun h => h))
  clear f1 X0 F0
  obtain ⟨c0, c1, c2, c3, c4⟩ := cells5 X1.out
  obtain ⟨z0, z1, z2, z3, z4⟩ := free5 X1.out
  go_wp2_with (go_at_call 19; refine (few13_any _ _ _ hle hcc _).mono ?_; rw [← HM.out]; rintro e w2 ⟨rfl, rfl⟩)
  have F2 := Lib.hid (F1.out.setCell (p := ⟨w.heap.size, 0, none⟩) (.inr (Nat.le_refl _)) (.bool false))
  generalize w1.setCell ⟨w.heap.size, 0, none⟩ (.bool false) = w2 at *
  obtain ⟨j, hj⟩ := HK.out w2 ao cap
  refine hj.mono ?_
  clear hj F1 X1 c0 c1 c2 c3 c4 z0 z1 z2 z3 z4
  rintro e w3 ⟨b, rfl, he, f3⟩
  have F3 := Lib.hid (F2.out.then_no f3)
  clear he f3 F2
  go_wp2_with fail
  go_ret
  exact ⟨rfl, F3.out⟩

theorem GreCuts_walk {w : World} {ao : Option Addr} {n cap : Nat} {fs : List UInt8} (s k : Bool) (key : Nat) (q : Bool) (seq : Nat) (at_ : Int) (hk : key < 4294967296) (hq : seq < 4294967296) (hb : Bs w ao n cap fs) :
    Calls Try.prog 12 #[.agg #[.bool s, .bool k, .int .u32 key, .bool q, .int .u32 seq], .slice ao n cap, .int .i64 at_] w (LawOk w) := by
  by_cases h2 : 14 ≤ n ∧ n ≤ 9000
  · exact gCuts_ok s k key q seq at_ hk hq hb h2.1 h2.2
  · exact gCuts_size s k key q seq at_ (by omega) hb.2.le hb.2.capLe

end Go.Proofs.Ytghjcgpdmlfmjaa

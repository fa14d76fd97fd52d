/- VxlanCuts: its walk. -/
import Derived.Test.YtghjcgpdmlfmjaaLawVxlanBack
import Derived.Test.YtghjcgpdmlfmjaaBits
namespace Go.Proofs.Ytghjcgpdmlfmjaa
open Go.RowKit
set_option linter.unusedVariables false

theorem known_take (l : List UInt8) (k : Nat) (h : 4 ≤ k) : known (l.take k) = known l := by
  unfold known
  rw [List.take_take, show min 4 k = 4 by omega]
theorem number_take (l : List UInt8) (k : Nat) (h : 8 ≤ k) : ((l.take k).drop 4).take 4 = (l.drop 4).take 4 := by
  rw [List.drop_take, List.take_take, show min 4 (k - 4) = 4 by omega]

set_option maxRecDepth 100000 in
theorem vxCuts_ok {w : World} {ao : Option Addr} {n cap : Nat} {fs : List UInt8} (id at_ : Int) (hi0 : 0 ≤ id) (hi : id < 4294967296) (ha0 : -9223372036854775808 ≤ at_) (ha1 : at_ ≤ 9223372036854775807) (hb : Bs w ao n cap fs) (h1 : 14 ≤ n) (h2 : n ≤ 9000) :
    Calls Try.prog 6 #[.int .u32 id, .slice ao n cap, .int .i64 at_] w (LawOk w) := by
  have hle := hb.2.le
  have hcc := hb.2.capLe
  have HB := Lib.hid hb
  have hm : min n 10000 = n := by omega
  have HM := Lib.hid hm
  have hN : fs.length = n := hb.1.symm
  have HN := Lib.hid hN
  clear hb hm hN
  have hcv := fun (wx : World) (a : Option Addr) (m c : Nat) (bs : List UInt8) (h : Bs wx a m c bs) => run_bytes_string (P := Try.prog) wx 23 9 5 h Try.underlying23 Try.underlying5 Try.underlying9
  have HCV := Lib.hid hcv
  clear hcv
  obtain ⟨i, hi24⟩ : ∃ i, i = bits .and .u32 id 16777215 := ⟨_, rfl⟩
  have hi1 : 0 ≤ i := by rw [hi24, u32_mask24 id hi0 hi]; omega
  have hi2 : i < 16777216 := by rw [hi24, u32_mask24 id hi0 hi]; omega
  have hi24' := hi24.symm
  clear hi24
  obtain ⟨a16, h16⟩ : ∃ a16 : Nat, bits .and .i64 at_ 65535 = (a16 : Int) := ⟨(at_ % 65536).toNat, by rw [i64_mask16]; omega⟩
  obtain ⟨k, hk⟩ : ∃ k : Nat, (a16 : Int) % ((n : Int) + 8 + 1) = (k : Int) ∧ k ≤ n + 8 := ⟨a16 % (n + 8 + 1), by rw [Int.natCast_emod]; rfl, by have := Nat.mod_lt a16 (show 0 < n + 8 + 1 by omega); omega⟩
  obtain ⟨hk, hkn⟩ := hk
  go_enter Try.func6, Try.ntmps6
  go_wp2_with (first
    | (go_at_call 13; refine (shown11_any _).mono ?_; rintro e w1 ⟨rfl, f1⟩; have F1 := Lib.hid f1; clear f1)
    | (go_at_call 14; refine (few11_any _ _ _ hle hcc _).mono ?_; rw [HM.out]; rintro e w2 ⟨rfl, rfl⟩))
  refine (vxEncap_ok i hi1 hi2 (HB.out.no F1.out) h1 h2 (m := n + 8) (by omega)).mono ?_
  rintro e w3 ⟨g, c3, rfl, o3, f3, h3⟩
  have O3 := Lib.hid o3
  have F3 := Lib.hid (F1.out.then_no f3)
  have hc3 := o3.2.le
  have hc3' := o3.2.capLe
  clear o3 f3 h3
  go_wp2_with fail
  have b3 : Bs w3 (some ⟨g, 0, none⟩) k c3 ((vxOut i fs).take k) := by
    have := O3.out.bs.cut 0 k c3 (by omega) (by omega) (by omega) (by omega) (a' := some ⟨g, 0, none⟩) (by simp [Addr.add])
    simpa using this
  have B3 := Lib.hid b3
  clear b3
  by_cases k8 : k < 8
  · have hkk : k < 22 := by omega
    refine (vxDecap_head B3.out k8).mono ?_
    rintro e w4 ⟨b, rfl, he, f4⟩
    have HE := Lib.hid he
    have F4 := Lib.hid (F3.out.then_no f4)
    clear he f4
    go_wp2_with (go_at_call 17; refine (errIs_any HE.out 2).mono ?_; rintro e w6 ⟨rfl, rfl⟩)
    go_ret
    exact ⟨rfl, F4.out⟩
  · by_cases k22 : k < 22
    · refine (vxDecap_size B3.out (by omega) (by unfold big; omega) (by rw [known_take _ _ (by omega)]; exact vxOut_known _ _) 2 (.inl ⟨k22, rfl⟩)).mono ?_
      rintro e w4 ⟨b, rfl, he, f4⟩
      have HE := Lib.hid he
      have F4 := Lib.hid (F3.out.then_no f4)
      clear he f4
      go_wp2_with (go_at_call 17; refine (errIs_any HE.out 2).mono ?_; rintro e w6 ⟨rfl, rfl⟩)
      go_ret
      exact ⟨rfl, F4.out⟩
    · refine (vxDecap_ok B3.out (by omega) (by omega) (by rw [known_take _ _ (by omega)]; exact vxOut_known _ _) (i := i) (m := k - 8) (fs := fs.take (k - 8)) (by rw [number_take _ _ (by omega)]; exact vxOut_number i fs hi1 hi2) (by rw [List.drop_take]; rfl) rfl).mono ?_
      rintro e w4 ⟨g4, c4, rfl, o4, f4, h4⟩
      have F4 := Lib.hid (F3.out.then_no f4)
      have s1 := fun nq => HCV.out (w4.drewN nq) _ _ _ _ (o4.bs.no ((Fr.refl _ _).drewN nq))
      have b2 : Bs w4 ao (k - 8) cap (fs.take (k - 8)) := by
        have := (HB.out.no F4.out).cut 0 (k - 8) cap (by omega) (by omega) (by omega) (by omega) (a' := ao) (by cases ao <;> simp [Addr.add])
        simpa using this
      have s2 := fun nq => HCV.out (w4.drewN nq) _ _ _ _ (b2.no ((Fr.refl _ _).drewN nq))
      have k22' : 22 ≤ k := by omega
      clear o4 f4 h4 b2
      go_wp2_with fail
      go_quiet (fail)
      go_wp2_with fail
      go_ret
      exact ⟨rfl, F4.out.drewN _⟩

theorem vxCuts_size {w : World} {ao : Option Addr} {n cap : Nat} (id at_ : Int) (hi0 : 0 ≤ id) (hi : id < 4294967296) (hn : n < 14 ∨ 9000 < n) (hle : n ≤ cap) (hcc : cap ≤ 9223372036854775807) :
    Calls Try.prog 6 #[.int .u32 id, .slice ao n cap, .int .i64 at_] w (LawOk w) := by
  obtain ⟨m, hm⟩ : ∃ m, m = min n 10000 := ⟨_, rfl⟩
  have hmn : m < 14 ∨ 9000 < m := by omega
  have HM := Lib.hid hm
  clear hm hn
  obtain ⟨i, hi24⟩ : ∃ i, i = bits .and .u32 id 16777215 := ⟨_, rfl⟩
  have hi2 : i < 16777216 := by rw [hi24, u32_mask24 id hi0 hi]; omega
  have hi24' := hi24.symm
  clear hi24
  rcases hmn with h | h
  · go_enter Try.func6, Try.ntmps6
    go_wp2_with (first
      | (go_at_call 13; refine (shown11_any _).mono ?_; rintro e w1 ⟨rfl, f1⟩; have F1 := Lib.hid f1; clear f1)
      | (go_at_call 14; refine (few11_any _ _ _ hle hcc _).mono ?_; rw [← HM.out]; rintro e w2 ⟨rfl, rfl⟩)
      | (go_at_call 15; refine (vxEncap_short i hi2 h).mono ?_; rintro e w3 ⟨b, rfl, he, f3⟩; clear he; have F3 := Lib.hid (F1.out.then_no f3); clear f3))
    go_ret
    exact ⟨rfl, F3.out⟩
  · go_enter Try.func6, Try.ntmps6
    go_wp2_with (first
      | (go_at_call 13; refine (shown11_any _).mono ?_; rintro e w1 ⟨rfl, f1⟩; have F1 := Lib.hid f1; clear f1)
      | (go_at_call 14; refine (few11_any _ _ _ hle hcc _).mono ?_; rw [← HM.out]; rintro e w2 ⟨rfl, rfl⟩)
      | (go_at_call 15; refine (vxEncap_big i hi2 h).mono ?_; rintro e w3 ⟨b, rfl, he, f3⟩; clear he; have F3 := Lib.hid (F1.out.then_no f3); clear f3))
    go_ret
    exact ⟨rfl, F3.out⟩

theorem VxlanCuts_walk {w : World} {ao : Option Addr} {n cap : Nat} {fs : List UInt8} (id at_ : Int) (hi0 : 0 ≤ id) (hi : id < 4294967296) (ha0 : -9223372036854775808 ≤ at_) (ha1 : at_ ≤ 9223372036854775807) (hb : Bs w ao n cap fs) :
    Calls Try.prog 6 #[.int .u32 id, .slice ao n cap, .int .i64 at_] w (LawOk w) := by
  by_cases h2 : 14 ≤ n ∧ n ≤ 9000
  · exact vxCuts_ok id at_ hi0 hi ha0 ha1 hb h2.1 h2.2
  · exact vxCuts_size id at_ hi0 hi (by omega) hb.2.le hb.2.capLe

end Go.Proofs.Ytghjcgpdmlfmjaa

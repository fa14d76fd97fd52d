/- VxlanBack: what was put in comes out: its walk. -/
import Derived.Test.YtghjcgpdmlfmjaaSh11
namespace Go.Proofs.Ytghjcgpdmlfmjaa
open Go.RowKit
set_option linter.unusedVariables false

/-- What a law answers. -/
def LawOk (w : World) (e : Ending) (w' : World) : Prop := e = .returned (.bool true) ∧ Fr No w w'

theorem vxBack_ok {w : World} {ao : Option Addr} {n cap : Nat} {fs : List UInt8} (id : Int) (hi0 : 0 ≤ id) (hi : id < 16777216) (hb : Bs w ao n cap fs) (h1 : 14 ≤ n) (h2 : n ≤ 9000) :
    Calls Try.prog 3 #[.int .u32 id, .slice ao n cap] w (LawOk w) := by
  have hle := hb.2.le
  have hcc := hb.2.capLe
  have HB := Lib.hid hb
  have hm : min n 10000 = n := by omega
  have HM := Lib.hid hm
  have hN : fs.length = n := hb.1.symm
  have HN := Lib.hid hN
  clear hb hm hN
  have hcv := fun (wx : World) (a : Option Addr) (m c : Nat) (bs : List UInt8) (h : Bs wx a m c bs) => run_bytes_string (P := Try.prog) wx 23 9 5 h Try.underlying23 Try.underlying5 Try.underlying9
  have HCV := Lib.hid hcv
  clear hcv
  go_enter Try.func3, Try.ntmps3
  go_wp2_with (first
    | (go_at_call 13; refine (shown11_any _).mono ?_; rintro e w1 ⟨rfl, f1⟩; have F1 := Lib.hid f1; clear f1)
    | (go_at_call 14; refine (few11_any _ _ _ hle hcc _).mono ?_; rw [HM.out]; rintro e w2 ⟨rfl, rfl⟩))
  refine (vxEncap_ok id hi0 hi (HB.out.no F1.out) h1 h2 (m := n + 8) (by omega)).mono ?_
  rintro e w3 ⟨g, c3, rfl, o3, f3, h3⟩
  have O3 := Lib.hid o3
  have F3 := Lib.hid (F1.out.then_no f3)
  clear o3 f3 h3
  go_wp2_with fail
  refine (vxDecap_ok O3.out.bs (by omega) (by omega) (vxOut_known _ _) (vxOut_number id fs hi0 hi) rfl (m := n) (by omega)).mono ?_
  rintro e w4 ⟨g4, c4, rfl, o4, f4, h4⟩
  have F4 := Lib.hid (F3.out.then_no f4)
  have s1 := HCV.out w4 _ _ _ _ o4.bs
  have s2 := HCV.out w4 _ _ _ _ (HB.out.no F4.out)
  rw [vxOut_drop] at s1
  clear o4 f4 h4
  go_wp2_with fail
  go_ret
  exact ⟨rfl, F4.out⟩

theorem vxBack_id {w : World} {ao : Option Addr} {n cap : Nat} (id : Int) (hi : 16777216 ≤ id) (hi2 : id < 4294967296) (hle : n ≤ cap) (hcc : cap ≤ 9223372036854775807) :
    Calls Try.prog 3 #[.int .u32 id, .slice ao n cap] w (LawOk w) := by
  go_enter Try.func3, Try.ntmps3
  go_wp2_with (first
    | (go_at_call 13; refine (shown11_any _).mono ?_; rintro e w1 ⟨rfl, f1⟩; have F1 := Lib.hid f1; clear f1)
    | (go_at_call 14; refine (few11_any _ _ _ hle hcc _).mono ?_; rintro e w2 ⟨rfl, rfl⟩)
    | (go_at_call 15; refine (vxEncap_id id hi hi2).mono ?_; rintro e w3 ⟨b, rfl, he, f3⟩; clear he; have F3 := Lib.hid (F1.out.then_no f3); clear f3))
  go_ret
  exact ⟨rfl, F3.out⟩

theorem vxBack_size {w : World} {ao : Option Addr} {n cap : Nat} (id : Int) (hi : id < 16777216) (hn : n < 14 ∨ 9000 < n) (hle : n ≤ cap) (hcc : cap ≤ 9223372036854775807) :
    Calls Try.prog 3 #[.int .u32 id, .slice ao n cap] w (LawOk w) := by
  obtain ⟨m, hm⟩ : ∃ m, m = min n 10000 := ⟨_, rfl⟩
  have hmn : m < 14 ∨ 9000 < m := by omega
  have HM := Lib.hid hm
  clear hm hn
  rcases hmn with h | h
  · go_enter Try.func3, Try.ntmps3
    go_wp2_with (first
      | (go_at_call 13; refine (shown11_any _).mono ?_; rintro e w1 ⟨rfl, f1⟩; have F1 := Lib.hid f1; clear f1)
      | (go_at_call 14; refine (few11_any _ _ _ hle hcc _).mono ?_; rw [← HM.out]; rintro e w2 ⟨rfl, rfl⟩)
      | (go_at_call 15; refine (vxEncap_short id hi h).mono ?_; rintro e w3 ⟨b, rfl, he, f3⟩; clear he; have F3 := Lib.hid (F1.out.then_no f3); clear f3))
    go_ret
    exact ⟨rfl, F3.out⟩
  · go_enter Try.func3, Try.ntmps3
    go_wp2_with (first
      | (go_at_call 13; refine (shown11_any _).mono ?_; rintro e w1 ⟨rfl, f1⟩; have F1 := Lib.hid f1; clear f1)
      | (go_at_call 14; refine (few11_any _ _ _ hle hcc _).mono ?_; rw [← HM.out]; rintro e w2 ⟨rfl, rfl⟩)
      | (go_at_call 15; refine (vxEncap_big id hi h).mono ?_; rintro e w3 ⟨b, rfl, he, f3⟩; clear he; have F3 := Lib.hid (F1.out.then_no f3); clear f3))
    go_ret
    exact ⟨rfl, F3.out⟩

theorem VxlanBack_walk {w : World} {ao : Option Addr} {n cap : Nat} {fs : List UInt8} (id : Int) (hi0 : 0 ≤ id) (hi : id < 4294967296) (hb : Bs w ao n cap fs) :
    Calls Try.prog 3 #[.int .u32 id, .slice ao n cap] w (LawOk w) := by
  by_cases h1 : id < 16777216
  · by_cases h2 : 14 ≤ n ∧ n ≤ 9000
    · exact vxBack_ok id hi0 h1 hb h2.1 h2.2
    · exact vxBack_size id h1 (by omega) hb.2.le hb.2.capLe
  · exact vxBack_id id (by omega) hi hb.2.le hb.2.capLe

end Go.Proofs.Ytghjcgpdmlfmjaa

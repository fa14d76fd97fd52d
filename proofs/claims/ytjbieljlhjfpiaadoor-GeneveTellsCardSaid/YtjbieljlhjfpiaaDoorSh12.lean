/- The statements' own functions 'few', 'some', 'shown' (layer 12), and the reference's 'Same'. -/
import Derived.Test.YtjbieljlhjfpiaaDoorGenLaw
import Derived.Test.YtjbieljlhjfpiaaDoorErrText
import Derived.BigQuiet
namespace Go.Proofs.YtjbieljlhjfpiaaDoor
open Go.RowKit
set_option linter.unusedVariables false

theorem few12_any (ao : Option Addr) (n cap : Nat) (h : n ≤ cap) (hc : cap ≤ 9223372036854775807) (w : World) : Calls Tryd.prog 6 #[.slice ao n cap] w fun e w' => e = .returned (.slice ao (min n 10000) cap) ∧ w = w' := by
  by_cases h1 : n ≤ 10000
  · have e1 : min n 10000 = n := by omega
    have HE := Lib.hid e1
    clear e1
    go_enter Tryd.func6, Tryd.ntmps6
    go_wp2
    go_ret
    exact ⟨by rw [HE.out]; rfl, rfl⟩
  · have e1 : min n 10000 = 10000 := by omega
    have HE := Lib.hid e1
    clear e1
    have h2 : 10000 < n := by omega
    have h3 : 10000 ≤ cap := by omega
    go_enter Tryd.func6, Tryd.ntmps6
    go_wp2
    go_ret
    exact ⟨by rw [HE.out]; rfl, rfl⟩
theorem some12_any (ao : Option Addr) (n cap : Nat) (h : n ≤ cap) (hc : cap ≤ 9223372036854775807) (w : World) : Calls Tryd.prog 7 #[.slice ao n cap] w fun e w' => e = .returned (.slice ao (min n 100) cap) ∧ w = w' := by
  by_cases h1 : n ≤ 100
  · have e1 : min n 100 = n := by omega
    have HE := Lib.hid e1
    clear e1
    go_enter Tryd.func7, Tryd.ntmps7
    go_wp2
    go_ret
    exact ⟨by rw [HE.out]; rfl, rfl⟩
  · have e1 : min n 100 = 100 := by omega
    have HE := Lib.hid e1
    clear e1
    have h2 : 100 < n := by omega
    have h3 : 100 ≤ cap := by omega
    go_enter Tryd.func7, Tryd.ntmps7
    go_wp2
    go_ret
    exact ⟨by rw [HE.out]; rfl, rfl⟩

/-- The same options: true. -/
theorem same12_true {w : World} {ao bo : Option Addr} {n c d : Nat} {os : List Opt} (ha : Rs w ao n c os) (hb : Rs w bo n d os) : Calls Tryd.prog 15 #[.slice ao n c, .slice bo n d] w fun e w' => e = .returned (.bool true) ∧ Fr No w w' := by
  have hle := ha.le
  have hcc := ha.capLe
  have hle2 := hb.le
  have hcc2 := hb.capLe
  have HA := Lib.hid ha
  have HB := Lib.hid hb
  clear ha hb
  go_enter Tryd.func15, Tryd.ntmps15
  go_wp2_with fail
  go_loopw [5] (fun t wr => ∃ k : Nat, t = .int .i64 k ∧ k ≤ n ∧ Fr No w wr) (fun t _ => n - (intOf t).toNat)
  case atStart => exact ⟨0, rfl, by omega, Fr.refl _ _⟩
  case round =>
    obtain ⟨k, rfl, hk, hf⟩ := hrel
    have F1 := Lib.hid hf
    by_cases hlt : k < n
    · obtain ⟨x, o, rfl, ho, ⟨po, pc, h1, h2, h3, h4⟩, -⟩ := (HA.out.no hf).get k hlt
      obtain ⟨y, o', rfl, ho', ⟨qo, qc, k1, k2, k3, k4⟩, -⟩ := (HB.out.no hf).get k hlt
      rw [ho] at ho'
      cases ho'
      have hc1 : ∀ nq, (convert 24 9 (.slice po o.b.length pc)).run Tryd.prog (wr.drewN nq) = .ok (.string ⟨o.b.toArray⟩) (wr.drewN nq) := fun nq => run_bytes_string _ 24 9 5 (h4.no ((Fr.refl No wr).drewN nq)) Tryd.underlying24 Tryd.underlying5 Tryd.underlying9
      have hc2 : ∀ nq, (convert 24 9 (.slice qo o.b.length qc)).run Tryd.prog (wr.drewN nq) = .ok (.string ⟨o.b.toArray⟩) (wr.drewN nq) := fun nq => run_bytes_string _ 24 9 5 (k4.no ((Fr.refl No wr).drewN nq)) Tryd.underlying24 Tryd.underlying5 Tryd.underlying9
      clear h4 k4 ho hf
      have b1 : (k : Int) < (n : Int) := by omega
      have b2 : (0 : Int) ≤ (k : Int) := by omega
      have b3 : (k : Int).toNat = k := by omega
      go_wp2_with fail
      go_quiet (fail)
      clear hc1 hc2
      go_wp2_with fail
      go_roundw
      case rel => exact ⟨k + 1, by go_num, by omega, F1.out.drewN _⟩
      case measure => simp [intOf]; omega
    · clear hf
      go_wp2_with fail
      go_ret
      exact ⟨rfl, F1.out⟩

end Go.Proofs.YtjbieljlhjfpiaaDoor

/- slices of ints: Index, Contains. -/
import Derived.Test.YticebdoiahadoaaDoorBg1
namespace Go.Proofs.YticebdoiahadoaaDoor
open Go.RowKit
set_option linter.unusedVariables false
set_option linter.unusedSimpArgs false
set_option maxRecDepth 100000 in
set_option maxHeartbeats 1000000 in
theorem indexI_any {w : World} {ao : Option Addr} {n cap : Nat} {zs : List Int} (h : Is_ w ao n cap zs) (x : Int) :
    Calls Tryd.prog 25 #[.slice ao n cap, .int .i64 x] w fun e w' => (∃ z, e = .returned (.int .i64 z) ∧ ((z = -1 ∧ ¬ x ∈ zs) ∨ (0 ≤ z ∧ x ∈ zs))) ∧ w = w' := by
  have H := Lib.hid h
  have hc1 := h.2.le
  have hc2 := h.2.capLe
  clear h
  go_enter Tryd.func25, Tryd.ntmps25
  go_wp2_with fail
  go_loopw [8] (fun t8 wr => ∃ j : Nat, j ≤ n ∧ t8 = .int .i64 j ∧ (¬ x ∈ zs.take j) ∧ wr = w) (fun t8 _ => n - (intOf t8).toNat)
  case atStart => exact ⟨0, by omega, rfl, by simp, rfl⟩
  case round =>
    obtain ⟨j, hj, rfl, hno, rfl⟩ := hrel
    have HNO := Lib.hid hno
    clear hno
    by_cases hlt : j < n
    · obtain ⟨b, hb⟩ : ∃ b, zs[j]? = some b := ⟨zs[j]'(by rw [← H.out.1]; exact hlt), List.getElem?_eq_getElem _⟩
      have HB := Lib.hid hb
      have bj : (j : Int) < (n : Int) := by omega
      cases ao with
      | none => exfalso; have := H.out.2.nocap rfl; omega
      | some g =>
        have c0 : wr.cell? (g.add j) = some (.int .i64 b) := H.out.2.cell g rfl j _ (by rw [List.getElem?_map, hb]; rfl)
        have hsn : zs.take (j + 1) = zs.take j ++ [b] := by rw [List.take_add_one, hb]; rfl
        have HSN := Lib.hid hsn
        clear hb hsn
        by_cases hxb : x = b
        · subst hxb
          go_wp2_with fail
          go_ret
          exact ⟨⟨j, rfl, .inr ⟨by omega, List.mem_of_getElem? HB.out⟩⟩, rfl⟩
        · have hxb' : (x == b) = false := by simpa using hxb
          go_wp2_with fail
          go_roundw
          case rel => exact ⟨j + 1, by omega, by go_num, (by
            rw [HSN.out]
            intro h
            rcases List.mem_append.1 h with h | h
            · exact HNO.out h
            · rw [List.mem_singleton] at h; exact hxb h), trivial⟩
          case measure => simp [intOf]; omega
    · have htk : zs.take j = zs := List.take_of_length_le (by have := H.out.1; omega)
      rw [htk] at HNO
      clear htk
      go_wp2_with fail
      go_ret
      exact ⟨⟨-1, rfl, .inl ⟨rfl, HNO.out⟩⟩, rfl⟩
theorem containsI_any {w : World} {ao : Option Addr} {n cap : Nat} {zs : List Int} (h : Is_ w ao n cap zs) (x : Int) {r : Bool} (hr : decide (x ∈ zs) = r) :
    Calls Tryd.prog 17 #[.slice ao n cap, .int .i64 x] w fun e w' => e = .returned (.bool r) ∧ w = w' := by
  have H := Lib.hid h
  have HR := Lib.hid hr
  clear h hr
  go_enter Tryd.func17, Tryd.ntmps17
  go_wp2_with fail
  refine (indexI_any H.out x).mono ?_
  rintro e w1 ⟨⟨z, rfl, hz⟩, rfl⟩
  rcases hz with ⟨rfl, hz⟩ | ⟨hz0, hz⟩
  · have hr : r = false := by rw [← HR.out]; simp [hz]
    subst hr
    clear hz
    go_wp2_with fail
    go_ret
    exact ⟨rfl, rfl⟩
  · have hr : r = true := by rw [← HR.out]; simp [hz]
    subst hr
    clear hz
    go_wp2_with fail
    go_ret
    exact ⟨rfl, rfl⟩
end Go.Proofs.YticebdoiahadoaaDoor
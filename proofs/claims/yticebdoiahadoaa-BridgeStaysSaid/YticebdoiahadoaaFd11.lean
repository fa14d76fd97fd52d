/- fdb: slices.IndexFunc, DeleteFunc at pointers. -/
import Derived.Test.YticebdoiahadoaaFd10
namespace Go.Proofs.Yticebdoiahadoaa
open Go.RowKit
set_option linter.unusedVariables false
set_option linter.unusedSimpArgs false

set_option maxRecDepth 100000 in
theorem fbAddF_any {W : World} {b : Nat} {e : En} (he : EnAt W b e) {r : Bool} (hr : e.st = r) : Calls Try.prog 97 #[evP b] W fun e' W' => e' = .returned (.bool r) ∧ Fr No W W' := by
  obtain ⟨-, -, -, -, -, -, -, -, -, c9⟩ := he.cells
  rw [hr] at c9
  clear he hr
  unfold evP
  go_enter Try.func97, Try.ntmps97
  go_wp2_with fail
  go_ret
  exact ⟨rfl, Fr.refl No W⟩
/-- A predicate on pointers, as a Go function value that only looks; it holds in every world that differs in the set S alone. -/
def LooksP (w : World) (S : Nat → Prop) (fk : Nat) (caps : Array Value) (xs : List Nat) (Pd : Nat → Bool) : Prop :=
  ∀ W, Fr S w W → ∀ b ∈ xs, Calls Try.prog fk (#[evP b] ++ caps) W fun r W' => r = .returned (.bool (Pd b)) ∧ Fr No W W'
theorem flatP (xs : List Nat) (i : Nat) : (xs.map evP)[i]? = (xs[i]?).map evP := by rw [List.getElem?_map]
/-- What IndexFunc says. -/
def IdxP (xs : List Nat) (Pd : Nat → Bool) (z : Int) : Prop := (z = -1 ∧ ∀ b ∈ xs, Pd b = false) ∨ ∃ (i : Nat) (b : Nat), z = (i : Int) ∧ xs[i]? = some b ∧ Pd b = true ∧ ∀ b' ∈ xs.take i, Pd b' = false

set_option maxRecDepth 100000 in
set_option maxHeartbeats 1000000 in
theorem fbIndexFunc_any {w : World} {ao : Option Addr} {n cap : Nat} {xs : List Nat} (hn : n = xs.length) (ho : Own w 86 1 ao n cap (xs.map evP)) {fk : Nat} {caps : Array Value} {Pd : Nat → Bool} {S : Nat → Prop} (hl : LooksP w S fk caps xs Pd)
    (eg : ∀ args w, (callFunc fk args).run Try.prog w = .ok (.enter fk args) w) :
    Calls Try.prog 110 #[.slice ao n cap, .func (.func fk) #[] caps] w fun e w' => (∃ z, e = .returned (.int .i64 z) ∧ IdxP xs Pd z) ∧ Fr No w w' := by
  have HN := Lib.hid hn
  have HO := Lib.hid ho
  have HL := Lib.hid hl
  have hc1 := ho.le
  have hc2 := ho.capLe
  clear hn ho hl
  go_enter Try.func110, Try.ntmps110
  go_wp2_with fail
  go_loopw [8] (fun t8 wr => ∃ j : Nat, j ≤ n ∧ t8 = .int .i64 j ∧ (∀ b ∈ xs.take j, Pd b = false) ∧ Fr No w wr) (fun t8 _ => n - (intOf t8).toNat)
  case atStart => exact ⟨0, by omega, rfl, by simp, Fr.refl _ _⟩
  case round =>
    obtain ⟨j, hj, rfl, hno, hf⟩ := hrel
    have HNO := Lib.hid hno
    have HF := Lib.hid hf
    clear hno hf
    by_cases hlt : j < n
    · obtain ⟨b, hb⟩ : ∃ b, xs[j]? = some b := ⟨xs[j]'(by rw [← HN.out]; exact hlt), List.getElem?_eq_getElem _⟩
      have HB := Lib.hid hb
      have bj : (j : Int) < (n : Int) := by omega
      cases ao with
      | none => exfalso; have := HO.out.nocap rfl; omega
      | some g =>
        obtain ⟨hg0, -⟩ := HO.out.row g rfl
        obtain ⟨gb, goff, gsp⟩ := g
        cases hg0
        have c0 : wr.cell? ⟨gb, j, none⟩ = some (evP b) := by
          have := (HO.out.no HF.out).sl.cell _ rfl j (evP b) (by rw [flatP, hb]; rfl)
          rwa [Addr.add_lit, Nat.zero_add] at this
        unfold evP at c0
        obtain ⟨r, hr⟩ : ∃ r, Pd b = r := ⟨_, rfl⟩
        have HR := Lib.hid hr
        have HC := Lib.hid (HL.out wr HF.out.of_no b (List.mem_of_getElem? hb))
        rw [hr] at HC
        have hsn : xs.take (j + 1) = xs.take j ++ [b] := by rw [List.take_add_one, hb]; rfl
        have HSN := Lib.hid hsn
        clear hb hr hsn
        go_wp2_with fail
        refine HC.out.mono ?_
        rintro e w3 ⟨rfl, f3⟩
        have F3 := Lib.hid (HF.out.then_no f3)
        clear f3 c0 HC
        cases r
        · go_wp2_with fail
          go_roundw
          case rel => exact ⟨j + 1, by omega, by go_num, (by
            intro b' hb'
            rw [HSN.out] at hb'
            rcases List.mem_append.1 hb' with h | h
            · exact HNO.out b' h
            · rw [List.mem_singleton] at h; rw [h]; exact HR.out), F3.out⟩
          case measure => simp [intOf]; omega
        · go_wp2_with fail
          go_ret
          exact ⟨⟨j, rfl, .inr ⟨j, b, rfl, HB.out, HR.out, HNO.out⟩⟩, F3.out⟩
    · have htk : xs.take j = xs := List.take_of_length_le (by have := HN.out; omega)
      rw [htk] at HNO
      clear htk
      go_wp2_with fail
      go_ret
      exact ⟨⟨-1, rfl, .inl ⟨rfl, HNO.out⟩⟩, HF.out⟩
end Go.Proofs.Yticebdoiahadoaa

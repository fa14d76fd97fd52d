/- fdb: slices.MinFunc at pointers; compare. -/
import Derived.Test.YticebdoiahadoaaFd12
namespace Go.Proofs.Yticebdoiahadoaa
open Go.RowKit
set_option linter.unusedVariables false
set_option linter.unusedSimpArgs false

/-- What MinFunc picks. -/
def minB (cf : Nat → Nat → Int) (x : Nat) (l : List Nat) : Nat := l.foldl (fun m b => if cf b m < 0 then b else m) x
theorem minB_snoc (cf : Nat → Nat → Int) (x : Nat) (l : List Nat) (b : Nat) : minB cf x (l ++ [b]) = if cf b (minB cf x l) < 0 then b else minB cf x l := by
  unfold minB
  rw [List.foldl_append]
  rfl
theorem minB_mem (cf : Nat → Nat → Int) (x : Nat) (l : List Nat) : minB cf x l ∈ x :: l := by
  unfold minB
  induction l generalizing x with
  | nil => simp
  | cons b l ih =>
    simp only [List.foldl_cons]
    split
    · have := ih b; simp at this ⊢; rcases this with h | h <;> simp [h]
    · have := ih x; simp at this ⊢; rcases this with h | h <;> simp [h]
def LooksC (w : World) (fk : Nat) (caps : Array Value) (xs : List Nat) (cf : Nat → Nat → Int) : Prop :=
  ∀ W, Fr No w W → ∀ b ∈ xs, ∀ c ∈ xs, Calls Try.prog fk (#[evP b, evP c] ++ caps) W fun r W' => r = .returned (.int .i64 (cf b c)) ∧ Fr No W W'

set_option maxRecDepth 100000 in
set_option maxHeartbeats 1000000 in
theorem fbMinFunc_any {w : World} {ao : Option Addr} {n cap x : Nat} {l : List Nat} (hn : n = (x :: l).length) (hn6 : n ≤ 1000000) (ho : Own w 86 1 ao n cap ((x :: l).map evP)) {fk : Nat} {caps : Array Value} {cf : Nat → Nat → Int} (hl : LooksC w fk caps (x :: l) cf)
    (eg : ∀ args w, (callFunc fk args).run Try.prog w = .ok (.enter fk args) w) :
    Calls Try.prog 98 #[.slice ao n cap, .func (.func fk) #[] caps] w fun e w' => e = .returned (evP (minB cf x l)) ∧ Fr No w w' := by
  have HN := Lib.hid hn
  have HO := Lib.hid ho
  have HL := Lib.hid hl
  have hc1 := ho.le
  have hc2 := ho.capLe
  have hn1 : 1 ≤ n := by rw [hn]; simp
  have hn0 : ¬ (n : Int) < 1 := by omega
  have hn2 : (0 : Int) < (n : Int) := by omega
  clear hn ho hl
  cases ao with
  | none => exfalso; have := HO.out.nocap rfl; omega
  | some g =>
    obtain ⟨hg0, -⟩ := HO.out.row g rfl
    obtain ⟨gb, goff, gsp⟩ := g
    cases hg0
    have c0 : w.cell? ⟨gb, 0, none⟩ = some (evP x) := by
      have := HO.out.sl.cell _ rfl 0 (evP x) (by simp)
      rwa [Addr.add_lit, Nat.zero_add] at this
    unfold evP at c0
    unfold evP
    go_enter Try.func98, Try.ntmps98
    go_wp2_with fail
    go_loopw [5, 6] (fun t5 t6 wr => ∃ (j : Nat), 1 ≤ j ∧ j ≤ n ∧ t6 = .int .i64 j ∧ t5 = .pointer (some ⟨minB cf x (l.take (j - 1)), 0, none⟩) ∧ Fr No w wr) (fun _ t6 _ => n - (intOf t6).toNat)
    case atStart => exact ⟨1, by omega, by omega, rfl, by simp [minB], Fr.refl _ _⟩
    case round =>
      clear c0
      obtain ⟨j, hj1, hj, rfl, rfl, hf⟩ := hrel
      have HF := Lib.hid hf
      clear hf
      obtain ⟨m, hm⟩ : ∃ m, minB cf x (l.take (j - 1)) = m := ⟨_, rfl⟩
      rw [hm]
      have HM := Lib.hid hm
      have hmm : m ∈ x :: l := by
        rw [← hm]
        have := minB_mem cf x (l.take (j - 1))
        rcases List.mem_cons.1 this with h | h
        · rw [h]; simp
        · exact List.mem_cons_of_mem _ (List.mem_of_mem_take h)
      have HMM := Lib.hid hmm
      clear hm hmm
      by_cases hlt : j < n
      · obtain ⟨b, hb⟩ : ∃ b, (x :: l)[j]? = some b := ⟨(x :: l)[j]'(by rw [← HN.out]; exact hlt), List.getElem?_eq_getElem _⟩
        have hb2 : l[j - 1]? = some b := by
          rw [show j = (j - 1) + 1 by omega, List.getElem?_cons_succ] at hb
          exact hb
        have bj : (j : Int) < (n : Int) := by omega
        have c0 : wr.cell? ⟨gb, j, none⟩ = some (evP b) := by
          have := (HO.out.no HF.out).sl.cell _ rfl j (evP b) (by rw [flatP, hb]; rfl)
          rwa [Addr.add_lit, Nat.zero_add] at this
        unfold evP at c0
        obtain ⟨r, hr⟩ : ∃ r, cf b m = r := ⟨_, rfl⟩
        have HC := Lib.hid (HL.out wr HF.out b (List.mem_of_getElem? hb) m HMM.out)
        rw [hr] at HC
        have hsn : minB cf x (l.take (j + 1 - 1)) = if r < 0 then b else m := by
          rw [show j + 1 - 1 = (j - 1) + 1 by omega, List.take_add_one, hb2]
          show minB cf x (l.take (j - 1) ++ [b]) = _
          rw [minB_snoc, HM.out, hr]
        have HSN := Lib.hid hsn
        clear hb hb2 hr hsn
        go_wp2_with fail
        refine HC.out.mono ?_
        rintro e w3 ⟨rfl, f3⟩
        have F3 := Lib.hid (HF.out.then_no f3)
        have HO3 := Lib.hid (HO.out.no F3.out)
        have c3 : w3.cell? ⟨gb, j, none⟩ = some (.pointer (some ⟨b, 0, none⟩)) := f3.cell c0 (fun h => h)
        clear f3 c0 HC
        by_cases hrn : r < 0
        · go_wp2_with fail
          go_roundw
          case rel => exact ⟨j + 1, by omega, by omega, by go_num, by rw [HSN.out, if_pos hrn], F3.out⟩
          case measure => simp [intOf]; omega
        · go_wp2_with fail
          go_roundw
          case rel => exact ⟨j + 1, by omega, by omega, by go_num, by rw [HSN.out, if_neg (by omega)], F3.out⟩
          case measure => simp [intOf]; omega
      · have htk : l.take (j - 1) = l := List.take_of_length_le (by have := HN.out; simp at this; omega)
        rw [htk] at HM
        clear htk
        go_wp2_with fail
        go_ret
        refine ⟨?_, HF.out⟩
        rw [HM.out]
        rfl
end Go.Proofs.Yticebdoiahadoaa

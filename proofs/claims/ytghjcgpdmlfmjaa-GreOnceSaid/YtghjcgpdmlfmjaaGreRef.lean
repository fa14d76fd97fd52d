/- The document's own (*Order).Accept; numbers that came in. -/
import Derived.Test.YtghjcgpdmlfmjaaLawGreBack
import Derived.Deep.RegionWith
namespace Go.Proofs.Ytghjcgpdmlfmjaa
open Go.RowKit
set_option linter.unusedVariables false

/-- Numbers of 32 bits that are read. -/
def Us (w : World) (ao : Option Addr) (n cap : Nat) (us : List Nat) : Prop := n = us.length ∧ Sl w ao n cap (us.map fun u : Nat => Value.int .u32 (u : Int)) ∧ ∀ u ∈ us, u < 4294967296
theorem Us.fr {S : Nat → Prop} {w w' : World} {ao : Option Addr} {n cap : Nat} {us : List Nat} (h : Us w ao n cap us) (hf : Fr S w w') (ho : Out S ao) : Us w' ao n cap us := ⟨h.1, h.2.1.fr hf ho, h.2.2⟩
theorem Us.at {w : World} {ao : Option Addr} {n cap : Nat} {us : List Nat} (h : Us w ao n cap us) (k : Nat) (hk : k < n) : ∃ a u, ao = some a ∧ us[k]? = some u ∧ u < 4294967296 ∧ w.cell? (a.add k) = some (.int .u32 (u : Int)) := by
  obtain ⟨h1, h2, h3⟩ := h
  have hk' : k < us.length := by omega
  cases ao with
  | none => have := h2.nocap rfl; have := h2.le; omega
  | some a => exact ⟨a, us[k], rfl, List.getElem?_eq_getElem hk', h3 _ (List.getElem_mem hk'), h2.cell a rfl k _ (by simp [List.getElem?_eq_getElem hk'])⟩

/-- The document's order. -/
def Ro (w : World) (rb : Nat) (st : Option Nat) : Prop := w.heap[rb]? = some (.cells #[.bool st.isSome, .int .u32 (st.getD 0 : Nat)] 52 (0, 0))
def RefOk (w : World) (rb : Nat) (st : Option Nat) (x : Nat) (e : Ending) (w' : World) : Prop :=
  e = .returned (.bool (acc st x)) ∧ Ro w' rb (accNext st x) ∧ Fr (Is rb) w w'

theorem refAccept_any {w : World} {rb : Nat} {st : Option Nat} {x : Nat} (h : Ro w rb st) (hx : x < 4294967296) (hy : ∀ y, st = some y → y < 4294967296) :
    Calls Try.prog 23 #[.pointer (some ⟨rb, 0, none⟩), .int .u32 x] w (RefOk w rb st x) := by
  have H := Lib.hid h
  have F0 := Lib.hid (Fr.refl (Is rb) w)
  obtain ⟨y, hyd⟩ : ∃ y, y = st.getD 0 := ⟨_, rfl⟩
  have hy2 : y < 4294967296 := by
    cases st with
    | none => simp at hyd; omega
    | some z => simp at hyd; rw [hyd]; exact hy z rfl
  obtain ⟨b, hbd⟩ : ∃ b, b = st.isSome := ⟨_, rfl⟩
  have c0 : w.cell? ⟨rb, 0, none⟩ = some (.bool b) := by rw [cell_of_row w rb _ _ _ _ h, hbd]; rfl
  have c1 : w.cell? ⟨rb, 1, none⟩ = some (.int .u32 y) := by rw [cell_of_row w rb _ _ _ _ h, hyd]; rfl
  have z0 := frozen_of_row w rb 0 _ _ h
  have z1 := frozen_of_row w rb 1 _ _ h
  obtain ⟨d, hd⟩ : ∃ d, d = (x + 4294967296 - y) % 4294967296 := ⟨_, rfl⟩
  have hd2 : d < 4294967296 := by omega
  have hA : acc st x = !(b && (d == 0 || decide (2147483647 < d))) := by
    cases st with
    | none => simp at hbd; rw [hbd]; rfl
    | some z => simp at hbd hyd; rw [hbd, hd, hyd]; simp [acc]
  have hs : accNext st x = if acc st x then some x else st := rfl
  have HA := Lib.hid hA
  have HS := Lib.hid hs
  have hw1 : ((x : Int) + 4294967296 - (y : Int)) % 4294967296 = (d : Int) := by omega
  have hw2 : ((x : Int) + 4294967296 - (y : Int)).tmod 4294967296 = (d : Int) := by rw [Int.tmod_eq_emod_of_nonneg (by omega)]; omega
  clear hbd hyd hd hA hs h hy
  have yes : acc st x = true → ∃ w', w' = (w.setCell ⟨rb, 0, none⟩ (.bool true)).setCell ⟨rb, 1, none⟩ (.int .u32 x) ∧ RefOk w rb st x (.returned (.bool true)) w' := by
    intro ha
    refine ⟨_, rfl, by rw [ha], ?_, (F0.out.setCell (p := ⟨rb, 0, none⟩) (.inl rfl) _).setCell (p := ⟨rb, 1, none⟩) (.inl rfl) _⟩
    rw [HS.out, if_pos ha]
    exact set_row (set_row H.out 0 _ rfl) 1 _ rfl
  have no : acc st x = false → RefOk w rb st x (.returned (.bool false)) w := by
    intro ha
    refine ⟨by rw [ha], ?_, F0.out⟩
    rw [HS.out, if_neg (by rw [ha]; decide)]
    exact H.out
  have YES := Lib.hid yes
  have NO := Lib.hid no
  clear yes no
  cases b with
  | false =>
    go_enter Try.func23, Try.ntmps23
    go_wp2_with fail
    go_ret
    obtain ⟨_, rfl, h⟩ := YES.out (by rw [HA.out]; rfl)
    exact h
  | true =>
    by_cases hd0 : d = 0
    · subst hd0
      go_enter Try.func23, Try.ntmps23
      go_wp2_with fail
      go_ret
      exact NO.out (by rw [HA.out]; rfl)
    · have hz : ((d : Int) == 0) = false := by simp; omega
      by_cases hd1 : 2147483647 < d
      · have hq : (2147483647 : Int) < (d : Int) := by omega
        have HD := Lib.hid (show acc st x = false by rw [HA.out]; simp [hd0]; omega)
        go_enter Try.func23, Try.ntmps23
        go_wp2_with fail
        go_ret
        exact NO.out HD.out
      · have hq : ¬ (2147483647 : Int) < (d : Int) := by omega
        have HD := Lib.hid (show acc st x = true by rw [HA.out]; simp [hd0]; omega)
        go_enter Try.func23, Try.ntmps23
        go_wp2_with fail
        go_ret
        obtain ⟨_, rfl, h⟩ := YES.out HD.out
        exact h

end Go.Proofs.Ytghjcgpdmlfmjaa

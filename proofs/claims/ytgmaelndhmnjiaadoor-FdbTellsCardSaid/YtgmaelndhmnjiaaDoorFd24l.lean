/- fdb: List as the row. -/
import Derived.Test.YtgmaelndhmnjiaaDoorFd5
import Derived.Test.YtgmaelndhmnjiaaDoorFd24
namespace Go.Proofs.YtgmaelndhmnjiaaDoor
open Go.RowKit
set_option linter.unusedVariables false
set_option linter.unusedSimpArgs false

/-- List, as the row. -/
def ListAt (w : World) (A : AL) (e : Ending) (w' : World) : Prop :=
  ∃ (ao : Option Addr) (cap : Nat), e = .returned (.slice ao A.length cap) ∧ Own w' 60 10 ao A.length cap (A.flatMap encE) ∧ (∀ a, ao = some a → w.heap.size ≤ a.block) ∧ Fr No w w'
theorem fbList_at {w : World} {tb mb : Nat} {room life : Int} {L : FL} (h : Fd w tb mb room life L) {A : AL} (ha : Ab L A) : Calls Tryd.prog 12 #[.pointer (some ⟨tb, 0, none⟩)] w (ListAt w A) := by
  refine (fbList_any h).mono ?_
  rintro e w' ⟨ao, n, cap, xs, rfl, hn, hp, hs, ho, hnew, hf⟩
  have hpa : xs.Perm A := hp.trans ha.perm.symm
  have hx : xs = A := by
    refine Sor.eq ?_ ha.sor hpa
    have nd : (xs.map (·.mac)).Nodup := (hpa.map _).nodup_iff.2 ha.sor.nodup
    rw [List.Nodup, List.pairwise_map] at nd
    exact (hs.and nd).imp (fun ⟨h1, h2⟩ => ltM_total h1 (fun e => h2 e.symm))
  subst hx hn
  exact ⟨ao, cap, rfl, ho, hnew, hf⟩
/-- The cells of a row of entries. -/
theorem own_entry {w : World} {ao : Option Addr} {cap : Nat} {A : AL} (h : Own w 60 10 ao A.length cap (A.flatMap encE)) {i : Nat} {e : En} (hi : A[i]? = some e) : ∃ a, ao = some ⟨a, 0, none⟩ ∧ ∀ j u, (encE e)[j]? = some u → w.cell? ⟨a, i * 10 + j, none⟩ = some u := by
  have hlt : i < A.length := (List.getElem?_eq_some_iff.1 hi).1
  cases ao with
  | none =>
    have h1 := h.nocap rfl
    have h2 := h.le
    omega
  | some a =>
    obtain ⟨ha, -⟩ := h.row a rfl
    obtain ⟨b, o, s⟩ := a
    cases ha
    refine ⟨b, rfl, fun j u hj => ?_⟩
    have hjl : j < 10 := by have := (List.getElem?_eq_some_iff.1 hj).1; simpa [encE] using this
    have h1 : (A.flatMap encE)[i * 10 + j]? = some u := by
      clear h hlt
      induction A generalizing i with
      | nil => cases hi
      | cons x r ih =>
        rw [List.flatMap_cons]
        cases i with
        | zero =>
          simp only [List.getElem?_cons_zero, Option.some.injEq] at hi
          subst hi
          rw [Nat.zero_mul, Nat.zero_add, List.getElem?_append_left (by simpa [encE] using hjl)]
          exact hj
        | succ i =>
          rw [List.getElem?_append_right (by simp [encE]; omega), show (i + 1) * 10 + j - (encE x).length = i * 10 + j by simp [encE]; omega]
          exact ih (by simpa using hi)
    have := h.sl.cell _ rfl _ _ h1
    rwa [Addr.add_lit, Nat.zero_add] at this
end Go.Proofs.YtgmaelndhmnjiaaDoor

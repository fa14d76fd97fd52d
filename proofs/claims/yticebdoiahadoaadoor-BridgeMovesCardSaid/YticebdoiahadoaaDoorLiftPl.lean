/- A slice of places that came in. -/
import Derived.Test.YticebdoiahadoaaDoorMvB
import Derived.Test.YticebdoiahadoaaDoorLiftRows
namespace Go.Proofs.YticebdoiahadoaaDoor
open Go.RowKit Go.Deep Go.ChangeShapes Go.WideShapes
set_option linter.unusedVariables false
theorem add_of_spot2 {x : Addr} (h : x.spot = none) (k : Nat) : x.add k = ⟨x.block, x.off + k, none⟩ := by
  obtain ⟨b, o, s⟩ := x
  cases h
  exact Addr.add_lit _ _ _
set_option maxRecDepth 100000 in
theorem open_places {H : Type} {enc : TypeId × Value → H} {w : World} {base : Nat} {spare : Nat → Bool} {held : Bool} {r : Reach} {b0 : Nat} {v : Value} {d : DataW H} {p : List MemPlace}
    (hv : Value.okWide Tryd.prog w r b0 25 v) (h : DataW.Trod enc Tryd.prog w base spare held 25 v d p) :
    ∃ ao n cap xs, v = .slice ao n cap ∧ Ps w ao n cap xs := by
  obtain ⟨ao, n, cap, rfl, hl, hc, hn, hel⟩ := open_rows Tryd.underlying25 Tryd.underlying34 (by kernel_rfl) (by kernel_rfl) hv h
  have each : ∀ i, i < n → ∃ x : Pl, okI x.n ∧ ∀ a, ao = some a → w.cell? (a.add (i * 2)) = some (.bool x.tun) ∧ w.cell? ⟨(a.add (i * 2)).block, (a.add (i * 2)).off + 1, none⟩ = some (.int .i64 x.n) := by
    intro i hi
    cases ao with
    | none => have := hn rfl; omega
    | some a =>
      obtain ⟨_, _, _, h0, t0⟩ := hel a rfl i hi 0 _ rfl
      obtain ⟨_, _, _, h1, t1⟩ := hel a rfl i hi 1 _ rfl
      obtain ⟨tu, rfl⟩ := cell_bool Tryd.underlying4 t0
      obtain ⟨pn, rfl, hpn⟩ := cell_i64 Tryd.underlying3 t1
      refine ⟨⟨tu, pn⟩, hpn, fun a' ha => ?_⟩
      cases ha
      have hsp : (a.add (i * 2)).spot = none := World.cell?_spot (by simpa using h0)
      have e : a.add (i * 2 + 1) = ⟨(a.add (i * 2)).block, (a.add (i * 2)).off + 1, none⟩ := by
        rw [← Addr.add_add]
        exact add_of_spot2 hsp 1
      exact ⟨by simpa using h0, e ▸ h1⟩
  have hos : ∃ os : List Pl, os.length = n ∧ ∀ (i : Nat) (o : Pl), os[i]? = some o → okI o.n ∧ ∀ a, ao = some a → w.cell? (a.add (i * 2)) = some (.bool o.tun) ∧ w.cell? ⟨(a.add (i * 2)).block, (a.add (i * 2)).off + 1, none⟩ = some (.int .i64 o.n) := by
    clear h hel hv hl
    induction n with
    | zero => exact ⟨[], rfl, fun i o ho => by simp at ho⟩
    | succ k ih =>
      obtain ⟨os, h1, h2⟩ := ih (fun i hi => each i (by omega))
      obtain ⟨o, ho⟩ := each k (by omega)
      refine ⟨os ++ [o], by simp [h1], fun i o' ho' => ?_⟩
      by_cases hi : i < os.length
      · rw [List.getElem?_append_left hi] at ho'; exact h2 i o' ho'
      · have hik : i = k := by
          have := (List.getElem?_eq_some_iff.1 ho').1
          simp at this; omega
        subst hik
        rw [← h1] at ho'
        simp at ho'
        subst ho'
        exact h1 ▸ ho
  obtain ⟨os, h1, h2⟩ := hos
  refine ⟨ao, n, cap, os, rfl, h1.symm, hl, hc, hn, fun a ha i o ho => (h2 i o ho).2 a ha, fun o ho => ?_⟩
  obtain ⟨i, hi, rfl⟩ := List.getElem_of_mem ho
  exact (h2 i _ (List.getElem?_eq_getElem hi)).1
end Go.Proofs.YticebdoiahadoaaDoor
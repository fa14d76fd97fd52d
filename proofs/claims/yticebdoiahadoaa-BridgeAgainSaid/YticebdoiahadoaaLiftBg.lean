/- A slice of steps that came in (law 16). -/
import Derived.Test.YticebdoiahadoaaBl5
import Derived.Test.YticebdoiahadoaaLiftRows
namespace Go.Proofs.Yticebdoiahadoaa
open Go.RowKit Go.Deep Go.ChangeShapes Go.WideShapes
set_option linter.unusedVariables false

theorem add_of_spot {x : Addr} (h : x.spot = none) (k : Nat) : x.add k = ⟨x.block, x.off + k, none⟩ := by
  obtain ⟨b, o, s⟩ := x
  cases h
  exact Addr.add_lit _ _ _
set_option maxRecDepth 100000 in
theorem open_steps16 {H : Type} {enc : TypeId × Value → H} {w : World} {base : Nat} {spare : Nat → Bool} {held : Bool} {r : Reach} {b0 : Nat} {v : Value} {d : DataW H} {p : List MemPlace}
    (hv : Value.okWide Try.prog w r b0 23 v) (h : DataW.Trod enc Try.prog w base spare held 23 v d p) :
    ∃ ao n cap xs, v = .slice ao n cap ∧ Rs16 w ao n cap xs := by
  obtain ⟨ao, n, cap, rfl, hl, hc, hn, hel⟩ := open_rows Try.underlying23 Try.underlying31 (by kernel_rfl) (by kernel_rfl) hv h
  have each : ∀ i, i < n → ∃ x : St16, okSt x ∧ ∀ a, ao = some a → StAt w a i x := by
    intro i hi
    cases ao with
    | none => have := hn rfl; omega
    | some a =>
      obtain ⟨_, _, _, h0, t0⟩ := hel a rfl i hi 0 _ rfl
      obtain ⟨_, _, _, h1, t1⟩ := hel a rfl i hi 1 _ rfl
      obtain ⟨_, _, _, h2, t2⟩ := hel a rfl i hi 2 _ rfl
      obtain ⟨_, _, _, h3, t3⟩ := hel a rfl i hi 3 _ rfl
      obtain ⟨_, _, _, h4, t4⟩ := hel a rfl i hi 4 _ rfl
      obtain ⟨kd, rfl, hk⟩ := cell_i64 Try.underlying3 t0
      obtain ⟨pn, rfl, hpn⟩ := cell_i64 Try.underlying3 t1
      obtain ⟨sg, rfl, hsg⟩ := cell_i64 Try.underlying3 t2
      obtain ⟨bo, l, cp, bs, rfl, hb⟩ := cell_bytes Try.underlying29 Try.underlying5 (by kernel_rfl) t3
      obtain ⟨by_, rfl⟩ := cell_u8 Try.underlying5 t4
      refine ⟨⟨kd, pn, sg, bs, by_⟩, ⟨hk, hpn, hsg⟩, fun a' ha => ?_⟩
      cases ha
      have hsp : (a.add (i * 5)).spot = none := World.cell?_spot (by simpa using h0)
      have e : ∀ k, a.add (i * 5 + k) = ⟨(a.add (i * 5)).block, (a.add (i * 5)).off + k, none⟩ := by
        intro k
        rw [← Addr.add_add]
        exact add_of_spot hsp k
      refine ⟨bo, cp, by simpa using h0, (e 1) ▸ h1, (e 2) ▸ h2, ?_, (e 4) ▸ h4, ?_⟩
      · have := (e 3) ▸ h3
        rw [hb.1] at this; exact this
      · have := hb
        rw [hb.1] at this; exact this
  have hos : ∃ os : List St16, os.length = n ∧ ∀ (i : Nat) (o : St16), os[i]? = some o → okSt o ∧ ∀ a, ao = some a → StAt w a i o := by
    clear h hel hv hl
    induction n with
    | zero => exact ⟨[], rfl, fun i o ho => by simp at ho⟩
    | succ k ih =>
      obtain ⟨os, h1, h2⟩ := ih (fun i hi => each i (by omega))
      obtain ⟨o, ho⟩ := each k (by omega)
      refine ⟨os ++ [o], by simp [h1], fun i o' ho' => ?_⟩
      by_cases hi : i < os.length
      · rw [List.getElem?_append_left hi] at ho'; exact h2 i o' ho'
      · have hik : i = k := by
          have := (List.getElem?_eq_some_iff.1 ho').1
          simp at this; omega
        subst hik
        rw [← h1] at ho'
        simp at ho'
        subst ho'
        exact ho
  obtain ⟨os, h1, h2⟩ := hos
  refine ⟨ao, n, cap, os, rfl, h1.symm, hl, hc, hn, fun a ha i o ho => (h2 i o ho).2 a ha, fun o ho => ?_⟩
  obtain ⟨i, hi, rfl⟩ := List.getElem_of_mem ho
  exact (h2 i _ (List.getElem?_eq_getElem hi)).1

end Go.Proofs.Yticebdoiahadoaa

/- A slice of options that came in. -/
import Derived.Test.YthoppkklooomgaaGen1
import Derived.Test.YthoppkklooomgaaLiftRows
namespace Go.Proofs.Ythoppkklooomgaa
open Go.RowKit Go.Deep Go.ChangeShapes Go.WideShapes
set_option linter.unusedVariables false
set_option maxRecDepth 100000 in
theorem open_opts {H : Type} {enc : TypeId × Value → H} {w : World} {base : Nat} {spare : Nat → Bool} {held : Bool} {r : Reach} {b0 : Nat} {v : Value} {d : DataW H} {p : List MemPlace}
    (hv : Value.okWide Try.prog w r b0 24 v) (h : DataW.Trod enc Try.prog w base spare held 24 v d p) :
    ∃ ao n cap os, v = .slice ao n cap ∧ Rs w ao n cap os := by
  obtain ⟨ao, n, cap, rfl, hl, hc, hn, hel⟩ := open_rows Try.underlying24 Try.underlying38 (by kernel_rfl) (by kernel_rfl) hv h
  have each : ∀ i, i < n → ∃ o : Opt, o.cls < 65536 ∧ ∀ a, ao = some a → OptAt w a i o := by
    intro i hi
    cases ao with
    | none => have := hn rfl; omega
    | some a =>
      obtain ⟨_, _, _, h0, t0⟩ := hel a rfl i hi 0 _ rfl
      obtain ⟨_, _, _, h1, t1⟩ := hel a rfl i hi 1 _ rfl
      obtain ⟨_, _, _, h2, t2⟩ := hel a rfl i hi 2 _ rfl
      obtain ⟨c, rfl, hcl⟩ := cell_u16 Try.underlying35 t0
      obtain ⟨ty, rfl⟩ := cell_u8 Try.underlying5 t1
      obtain ⟨bo, l, cp, bs, rfl, hb⟩ := cell_bytes Try.underlying36 Try.underlying5 (by kernel_rfl) t2
      refine ⟨⟨c, ty, bs⟩, hcl, fun a' ha => ?_⟩
      cases ha
      have hsp : (a.add (i * 3)).spot = none := World.cell?_spot (by simpa using h0)
      have e : ∀ k, a.add (i * 3 + k) = ⟨(a.add (i * 3)).block, (a.add (i * 3)).off + k, none⟩ := by
        intro k
        rw [← Addr.add_add]
        exact add_of_spot hsp k
      refine ⟨bo, cp, by simpa using h0, (e 1) ▸ h1, ?_, ?_⟩
      · have := (e 2) ▸ h2
        rw [hb.1] at this; exact this
      · have := hb
        rw [hb.1] at this; exact this
  have hos : ∃ os : List Opt, os.length = n ∧ ∀ (i : Nat) (o : Opt), os[i]? = some o → o.cls < 65536 ∧ ∀ a, ao = some a → OptAt w a i o := by
    clear h hel hv hl
    induction n with
    | zero => exact ⟨[], rfl, fun i o ho => by simp at ho⟩
    | succ k ih =>
      obtain ⟨os, h1, h2⟩ := ih (fun i hi => each i (by omega))
      obtain ⟨o, ho⟩ := each k (by omega)
      refine ⟨os ++ [o], by simp [h1], fun i o' ho' => ?_⟩
      by_cases hi : i < os.length
      · rw [List.getElem?_append_left hi] at ho'; exact h2 i o' ho'
      · have hik : i = k := by
          have := (List.getElem?_eq_some_iff.1 ho').1
          simp at this; omega
        subst hik
        rw [← h1] at ho'
        simp at ho'
        subst ho'
        exact ho
  obtain ⟨os, h1, h2⟩ := hos
  refine ⟨ao, n, cap, os, rfl, h1.symm, hl, hc, hn, fun a ha i o ho => (h2 i o ho).2 a ha, fun o ho => ?_⟩
  obtain ⟨i, hi, rfl⟩ := List.getElem_of_mem ho
  exact (h2 i _ (List.getElem?_eq_getElem hi)).1

end Go.Proofs.Ythoppkklooomgaa
/- A struct that came in by value, each field one cell: what each cell holds. -/
import Derived.Test.YthoppkklooomgaaLift
import Derived.Deep.Fields
namespace Go.Proofs.Ythoppkklooomgaa
open Go.RowKit Go.Deep Go.ChangeShapes Go.WideShapes
set_option linter.unusedVariables false
theorem open_flat {H : Type} {enc : TypeId × Value → H} {P : Program} {w : World} {base : Nat} {spare : Nat → Bool} {held : Bool} {r : Reach} {b0 : Nat} {t : TypeId} {fs : Array Field} {v : Value} {d : DataW H} {p : List MemPlace}
    (hs : P.underlying t = some (.struct fs)) (hone : oneCellFields P fs = true) (hC : P.cellsOf t = fs.size) (hv : Value.okWide P w r b0 t v) (h : DataW.Trod enc P w base spare held t v d p) :
    ∃ cs : List Value, v = .agg cs.toArray ∧ cs.length = fs.size ∧ ∀ (j : Nat) (f : Field), fs[j]? = some f → ∃ c y n, cs[j]? = some c ∧ DataW.trod enc P w base spare held n f.type [c] = some y := by
  obtain ⟨cs, rfl, hsz⟩ := okWide_struct hs hv
  obtain ⟨cs⟩ := cs
  rw [hC] at hsz
  refine ⟨cs, rfl, by simpa using hsz, fun j f hj => ?_⟩
  obtain ⟨fuel, hf⟩ := h
  obtain ⟨xs, n, _, hx, hcl, hlen, hg⟩ := DataW.trod_struct hs hf
  obtain ⟨ho, hk⟩ := hone_of hone j f hj
  have hj' : j < fs.size := (Array.getElem?_eq_some_iff.1 hj).1
  have h1 := hg j f hj
  rw [ho, hk] at h1
  have hjc : j < cs.length := by simp at hsz; omega
  have e : (List.drop j (Value.agg ⟨cs⟩).cells.toList).take 1 = [cs[j]] := by
    rw [show (Value.agg ⟨cs⟩).cells.toList = cs from rfl, List.drop_eq_getElem_cons hjc]; rfl
  rw [e] at h1
  exact ⟨cs[j], xs[j]'(by omega), n, List.getElem?_eq_getElem hjc, h1.trans (List.getElem?_eq_getElem (by omega))⟩

theorem cell_bool {H : Type} {enc : TypeId × Value → H} {P : Program} {w : World} {base : Nat} {spare : Nat → Bool} {held : Bool} {n : Nat} {t : TypeId} {c : Value} {y : DataW H × List MemPlace} (ht : P.underlying t = some .bool) (h : DataW.trod enc P w base spare held n t [c] = some y) : ∃ b, c = .bool b := by
  obtain ⟨b, hb, _⟩ := DataW.trod_bool ht h
  exact ⟨b, by simpa using hb⟩
theorem cell_u32 {H : Type} {enc : TypeId × Value → H} {P : Program} {w : World} {base : Nat} {spare : Nat → Bool} {held : Bool} {n : Nat} {t : TypeId} {c : Value} {y : DataW H × List MemPlace} (ht : P.underlying t = some (.int .u32)) (h : DataW.trod enc P w base spare held n t [c] = some y) : ∃ k : Nat, c = .int .u32 k ∧ k < 4294967296 := by
  obtain ⟨z, hz, _, hw⟩ := DataW.trod_int ht h
  have := wf_u32 hw
  simp at hz
  refine ⟨z.toNat, ?_, by omega⟩
  rw [hz, Int.toNat_of_nonneg this.1]

end Go.Proofs.Ythoppkklooomgaa
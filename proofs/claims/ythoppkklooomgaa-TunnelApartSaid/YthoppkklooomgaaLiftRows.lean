/- A slice of structs that came in, each field one cell: what each cell of each element holds. -/
import Derived.Test.YthoppkklooomgaaLiftFlat
import Derived.Deep.Slices
import Derived.ChangeSame
namespace Go.Proofs.Ythoppkklooomgaa
open Go.RowKit Go.Deep Go.ChangeShapes Go.WideShapes
set_option linter.unusedVariables false
theorem open_rows {H : Type} {enc : TypeId × Value → H} {P : Program} {w : World} {base : Nat} {spare : Nat → Bool} {held : Bool} {r : Reach} {b0 : Nat} {t e : TypeId} {fs : Array Field} {v : Value} {d : DataW H} {p : List MemPlace}
    (ht : P.underlying t = some (.slice e)) (he : P.underlying e = some (.struct fs)) (hone : oneCellFields P fs = true) (hC : P.cellsOf e = fs.size) (hv : Value.okWide P w r b0 t v) (h : DataW.Trod enc P w base spare held t v d p) :
    ∃ ao n cap, v = .slice ao n cap ∧ n ≤ cap ∧ cap ≤ 9223372036854775807 ∧ (ao = none → cap = 0) ∧
      ∀ a, ao = some a → ∀ i, i < n → ∀ (j : Nat) (f : Field), fs[j]? = some f → ∃ c y m, w.cell? (a.add (i * fs.size + j)) = some c ∧ DataW.trod enc P w base spare held m f.type [c] = some y := by
  obtain ⟨ao, n, cap, rfl⟩ := okWide_slice ht hv
  obtain ⟨fuel, hf⟩ := h
  rcases open_slice ht hf with ⟨h0, -⟩ | ⟨a, len, cp, m, k, D, Pl, hcs, hb, hl, hm, hmm, hx, hi⟩
  · simp [Value.cells] at h0
    obtain ⟨rfl, rfl, rfl⟩ := h0
    exact ⟨none, 0, 0, rfl, Nat.le_refl _, by omega, fun _ => rfl, fun a h => by cases h⟩
  · simp [Value.cells] at hcs
    obtain ⟨rfl, rfl, rfl⟩ := hcs
    refine ⟨_, _, _, rfl, hl, by unfold maxLen at hm; omega, fun h => (by cases h), ?_⟩
    intro a' ha i hin j f hj
    cases ha
    have him : i < m := by rw [hmm]; split <;> omega
    obtain ⟨cs', hc, ht'⟩ := hi i him
    rw [hC] at hc
    obtain ⟨ys, q, _, hy, hlen, hyl, hg⟩ := DataW.trod_struct he ht'
    obtain ⟨_, hcl, hat⟩ := World.cells?_some hc
    obtain ⟨ho, hk⟩ := hone_of hone j f hj
    have hjl : j < fs.size := (Array.getElem?_eq_some_iff.1 hj).1
    have hcell := hat j hjl
    have hjc : j < cs'.length := by omega
    have h1 := hg j f hj
    rw [ho, hk, List.drop_eq_getElem_cons hjc] at h1
    rw [List.getElem?_eq_getElem hjc, Addr.add_add] at hcell
    exact ⟨_, _, q, hcell, h1.trans (List.getElem?_eq_getElem (by omega))⟩

theorem cell_u8 {H : Type} {enc : TypeId × Value → H} {P : Program} {w : World} {base : Nat} {spare : Nat → Bool} {held : Bool} {n : Nat} {t : TypeId} {c : Value} {y : DataW H × List MemPlace} (ht : P.underlying t = some (.int .u8)) (h : DataW.trod enc P w base spare held n t [c] = some y) : ∃ k : UInt8, c = .int .u8 k.toNat := by
  obtain ⟨z, hz, _, hw⟩ := DataW.trod_int ht h
  obtain ⟨k, rfl⟩ := byte_of hw
  simp at hz
  exact ⟨k, hz⟩
theorem cell_u16 {H : Type} {enc : TypeId × Value → H} {P : Program} {w : World} {base : Nat} {spare : Nat → Bool} {held : Bool} {n : Nat} {t : TypeId} {c : Value} {y : DataW H × List MemPlace} (ht : P.underlying t = some (.int .u16)) (h : DataW.trod enc P w base spare held n t [c] = some y) : ∃ k : Nat, c = .int .u16 k ∧ k < 65536 := by
  obtain ⟨z, hz, _, hw⟩ := DataW.trod_int ht h
  have hb : 0 ≤ z ∧ z < 65536 := by
    simp [Lit.wf, IntKind.min, IntKind.max, IntKind.signed, IntKind.bits] at hw
    omega
  simp at hz
  refine ⟨z.toNat, ?_, by omega⟩
  rw [hz, Int.toNat_of_nonneg hb.1]
theorem cell_i64 {H : Type} {enc : TypeId × Value → H} {P : Program} {w : World} {base : Nat} {spare : Nat → Bool} {held : Bool} {n : Nat} {t : TypeId} {c : Value} {y : DataW H × List MemPlace} (ht : P.underlying t = some (.int .i64)) (h : DataW.trod enc P w base spare held n t [c] = some y) : ∃ z : Int, c = .int .i64 z ∧ -9223372036854775808 ≤ z ∧ z ≤ 9223372036854775807 := by
  obtain ⟨z, hz, _, hw⟩ := DataW.trod_int ht h
  have hb := wf_i64 hw
  simp at hz
  exact ⟨z, hz, hb⟩
theorem cell_bytes {H : Type} {enc : TypeId × Value → H} {P : Program} {w : World} {base : Nat} {spare : Nat → Bool} {held : Bool} {n : Nat} {t e : TypeId} {c : Value} {y : DataW H × List MemPlace} (ht : P.underlying t = some (.slice e)) (he : P.underlying e = some (.int .u8)) (hc : P.cellsOf e = 1) (h : DataW.trod enc P w base spare held n t [c] = some y) :
    ∃ bo l cap bs, c = .slice bo l cap ∧ Bs w bo l cap bs := by
  rcases open_ints ht he hc h with ⟨hcs, -⟩ | ⟨a, l, cap, zs, hcs, _, hl, hm, hz, _, hcell, hw⟩
  · simp at hcs
    subst hcs
    exact ⟨none, 0, 0, [], rfl, rfl, Sl.nil w⟩
  · simp at hcs
    subst hcs
    have hlz : l ≤ zs.length := by rw [hz]; split <;> omega
    refine ⟨some a, l, cap, (zs.take l).map fun z => UInt8.ofNat z.toNat, rfl, by simp; omega, hl, by unfold maxLen at hm; omega, fun h => (by cases h), fun a' ha j u hu => ?_⟩
    cases ha
    simp only [bytesV, List.map_map, List.getElem?_map, Option.map_eq_some_iff] at hu
    obtain ⟨z, hzj, rfl⟩ := hu
    rw [List.getElem?_take] at hzj
    split at hzj
    · have hj : j < zs.length := (List.getElem?_eq_some_iff.1 hzj).1
      rw [hcell j hj]
      have hw' := bounds_u8 (hw z (List.mem_of_getElem? hzj))
      have e : zs.getD j 0 = z := by simp [List.getD, hzj]
      rw [e]
      have e2 : ((UInt8.ofNat z.toNat).toNat : Int) = z := by simp only [UInt8.toNat_ofNat']; omega
      show some (Value.int .u8 z) = some (Value.int .u8 _)
      rw [e2]
    · cases hzj

end Go.Proofs.Ythoppkklooomgaa
/- Program-independent: a struct or an array that came in, and slices of such: what each cell holds, to whatever depth. -/
import Derived.Test.YticebdoiahadoaaDoorLift
import Derived.Deep.Fields
import Derived.Deep.Slices
import Derived.ChangeSame
import Derived.OpenShut
namespace Go.Proofs.YticebdoiahadoaaDoor
open Go.RowKit Go.Deep Go.ChangeShapes Go.WideShapes
set_option linter.unusedVariables false
/-- The cells of a type that are no struct and no array: where they lie, and of which type. -/
def leaves (P : Program) : Nat → TypeId → List (Nat × TypeId)
  | 0, t => [(0, t)]
  | d + 1, t => match P.underlying t with
    | some (.struct fs) => fs.toList.flatMap fun f => (leaves P d f.type).map fun p => (f.offset + p.1, p.2)
    | some (.array n e) => (List.range n).flatMap fun i => (leaves P d e).map fun p => (i * P.cellsOf e + p.1, p.2)
    | _ => [(0, t)]

section
variable {H : Type} {enc : TypeId × Value → H} {P : Program} {w : World} {base : Nat} {spare : Nat → Bool} {held : Bool}
theorem sub_take {cs : List Value} {a k j : Nat} {c : Value} (h : ((cs.drop a).take k)[j]? = some c) : cs[a + j]? = some c := by
  rw [List.getElem?_take] at h
  split at h
  · rwa [List.getElem?_drop] at h
  · cases h
theorem leaves_at : ∀ (d : Nat) {t : TypeId} {n : Nat} {cs : List Value} {y : DataW H × List MemPlace}, DataW.trod enc P w base spare held n t cs = some y → ∀ {o : Nat} {u : TypeId}, (o, u) ∈ leaves P d t →
    ∃ sub y' m, DataW.trod enc P w base spare held m u sub = some y' ∧ ∀ j c, sub[j]? = some c → cs[o + j]? = some c
  | 0, t, n, cs, y, h, o, u, hm => by
    simp [leaves] at hm
    obtain ⟨rfl, rfl⟩ := hm
    exact ⟨cs, y, n, h, fun j c hj => by rwa [Nat.zero_add]⟩
  | d + 1, t, n, cs, y, h, o, u, hm => by
    unfold leaves at hm
    split at hm
    · rename_i fs hs
      obtain ⟨f, hf, hp⟩ := List.mem_flatMap.1 hm
      obtain ⟨p, hp1, hp2⟩ := List.mem_map.1 hp
      obtain ⟨po, pu⟩ := p
      cases hp2
      obtain ⟨xs, k, _, _, hcl, hlen, hg⟩ := DataW.trod_struct hs h
      obtain ⟨i, hi⟩ := List.getElem?_of_mem hf
      have hi' : fs[i]? = some f := by simpa using hi
      have hlt : i < fs.size := (Array.getElem?_eq_some_iff.1 hi').1
      have h1 := hg i f hi'
      rw [List.getElem?_eq_getElem (by omega)] at h1
      obtain ⟨sub, y', m, h2, h3⟩ := leaves_at d h1 hp1
      exact ⟨sub, y', m, h2, fun j c hj => by have := sub_take (h3 j c hj); rwa [← Nat.add_assoc] at this⟩
    · rename_i k e hs
      obtain ⟨i, hi, hp⟩ := List.mem_flatMap.1 hm
      obtain ⟨p, hp1, hp2⟩ := List.mem_map.1 hp
      obtain ⟨po, pu⟩ := p
      cases hp2
      obtain ⟨xs, q, _, _, hcl, hlen, hg⟩ := DataW.trod_array hs h
      have hik : i < k := List.mem_range.1 hi
      have h1 := hg i hik
      rw [List.getElem?_eq_getElem (by omega)] at h1
      obtain ⟨sub, y', m, h2, h3⟩ := leaves_at d h1 hp1
      exact ⟨sub, y', m, h2, fun j c hj => by have := sub_take (h3 j c hj); rwa [← Nat.add_assoc] at this⟩
    · simp at hm
      obtain ⟨rfl, rfl⟩ := hm
      exact ⟨cs, y, n, h, fun j c hj => by rwa [Nat.zero_add]⟩

theorem leaf_int {k : IntKind} (d : Nat) {t : TypeId} {n : Nat} {cs : List Value} {y : DataW H × List MemPlace} (h : DataW.trod enc P w base spare held n t cs = some y) {o : Nat} {u : TypeId} (hm : (o, u) ∈ leaves P d t) (hu : P.underlying u = some (.int k)) :
    ∃ z : Int, cs[o]? = some (.int k z) ∧ (Lit.int k z).wf = true := by
  obtain ⟨sub, y', m, h2, h3⟩ := leaves_at d h hm
  obtain ⟨z, rfl, _, hw⟩ := DataW.trod_int hu h2
  exact ⟨z, h3 0 _ rfl, hw⟩
theorem leaf_bool (d : Nat) {t : TypeId} {n : Nat} {cs : List Value} {y : DataW H × List MemPlace} (h : DataW.trod enc P w base spare held n t cs = some y) {o : Nat} {u : TypeId} (hm : (o, u) ∈ leaves P d t) (hu : P.underlying u = some .bool) :
    ∃ b : Bool, cs[o]? = some (.bool b) := by
  obtain ⟨sub, y', m, h2, h3⟩ := leaves_at d h hm
  obtain ⟨b, rfl, _⟩ := DataW.trod_bool hu h2
  exact ⟨b, h3 0 _ rfl⟩

/-- A slice that came in: its elements' cells. -/
theorem open_srows {r : Reach} {b0 : Nat} {t e : TypeId} {v : Value} {d : DataW H} {p : List MemPlace}
    (ht : P.underlying t = some (.slice e)) (hv : Value.okWide P w r b0 t v) (h : DataW.Trod enc P w base spare held t v d p) :
    ∃ ao n cap, v = .slice ao n cap ∧ n ≤ cap ∧ cap ≤ 9223372036854775807 ∧ (ao = none → cap = 0) ∧
      ∀ a, ao = some a → ∀ i, i < n → ∃ cs y m, DataW.trod enc P w base spare held m e cs = some y ∧ ∀ j c, cs[j]? = some c → w.cell? (a.add (i * P.cellsOf e + j)) = some c := by
  obtain ⟨ao, n, cap, rfl⟩ := okWide_slice ht hv
  obtain ⟨fuel, hf⟩ := h
  rcases open_slice ht hf with ⟨h0, -⟩ | ⟨a, len, cp, m, k, D, Pl, hcs, hb, hl, hm, hmm, hx, hi⟩
  · simp [Value.cells] at h0
    obtain ⟨rfl, rfl, rfl⟩ := h0
    exact ⟨none, 0, 0, rfl, Nat.le_refl _, by omega, fun _ => rfl, fun a h => by cases h⟩
  · simp [Value.cells] at hcs
    obtain ⟨rfl, rfl, rfl⟩ := hcs
    refine ⟨_, _, _, rfl, hl, by unfold maxLen at hm; omega, fun h => (by cases h), ?_⟩
    intro a' ha i hin
    cases ha
    have him : i < m := by rw [hmm]; split <;> omega
    obtain ⟨cs', hc, ht'⟩ := hi i him
    obtain ⟨_, hcl, hat⟩ := World.cells?_some hc
    refine ⟨cs', _, _, ht', fun j c hj => ?_⟩
    have hjc : j < cs'.length := (List.getElem?_eq_some_iff.1 hj).1
    have hcell := hat j (by omega)
    rw [Addr.add_add] at hcell
    rw [hcell, ← hj]

/-- Elements one by one make a list. -/
theorem rows_list {α : Type} {w : World} {ao : Option Addr} {n cap k : Nat} {enc : α → List Value} {Q : α → Prop} (hk : ∀ x, (enc x).length = k) (h1 : n ≤ cap) (h2 : cap ≤ 9223372036854775807) (h3 : ao = none → cap = 0)
    (each : ∀ i, i < n → ∃ x : α, Q x ∧ ∀ a, ao = some a → ∀ j u, (enc x)[j]? = some u → w.cell? (a.add (i * k + j)) = some u) :
    ∃ xs : List α, xs.length = n ∧ (∀ x ∈ xs, Q x) ∧ Sl w ao n cap (xs.flatMap enc) := by
  have hos : ∃ xs : List α, xs.length = n ∧ (∀ x ∈ xs, Q x) ∧ ∀ a, ao = some a → ∀ j u, (xs.flatMap enc)[j]? = some u → w.cell? (a.add j) = some u := by
    clear h1 h3
    induction n with
    | zero => exact ⟨[], rfl, by simp, fun a _ j u hu => by simp at hu⟩
    | succ m ih =>
      obtain ⟨xs, e1, e2, e3⟩ := ih (fun i hi => each i (by omega))
      obtain ⟨x, hq, hx⟩ := each m (by omega)
      refine ⟨xs ++ [x], by simp [e1], ?_, ?_⟩
      · intro y hy
        rcases List.mem_append.1 hy with hy | hy
        · exact e2 y hy
        · rw [List.mem_singleton] at hy; subst hy; exact hq
      · intro a ha j u hu
        rw [List.flatMap_append] at hu
        have hl : (xs.flatMap enc).length = m * k := by
          rw [← e1]
          clear e1 e2 e3 hu
          induction xs with
          | nil => simp
          | cons b r ih => simp [ih, hk, Nat.add_mul]; omega
        by_cases hj : j < m * k
        · rw [List.getElem?_append_left (by omega)] at hu
          exact e3 a ha j u hu
        · rw [List.getElem?_append_right (by omega), hl] at hu
          have := hx a ha (j - m * k) u (by simpa using hu)
          rwa [show m * k + (j - m * k) = j by omega] at this
  obtain ⟨xs, e1, e2, e3⟩ := hos
  exact ⟨xs, e1, e2, h1, h2, h3, e3⟩
end
end Go.Proofs.YticebdoiahadoaaDoor
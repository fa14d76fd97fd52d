/- Program-independent: slices.SortFunc at an owned row of elements of k cells. -/
import Derived.Test.YtgmaelndhmnjiaaDoorBase
import Derived.Shelf.SlSortCmp.WholeK
namespace Go.Proofs.YtgmaelndhmnjiaaDoor
open Go.RowKit
set_option linter.unusedVariables false
set_option linter.unusedSimpArgs false
set_option linter.unusedSectionVars false

section
variable {α : Type} [Inhabited α]
theorem flatMap_get {enc : α → List Value} {k : Nat} (hk : ∀ x, (enc x).length = k) (k0 : 0 < k) : ∀ (l : List α) (t : Nat), t < l.length * k → (l.flatMap enc)[t]? = (enc (l[t / k]?.getD default))[t % k]?
  | [], t, h => by simp at h
  | a :: r, t, h => by
    rw [List.flatMap_cons]
    by_cases ht : t < k
    · rw [List.getElem?_append_left (by rw [hk]; exact ht), Nat.div_eq_of_lt ht, Nat.mod_eq_of_lt ht]
      rfl
    · rw [List.getElem?_append_right (by rw [hk]; omega), hk]
      have h2 : t - k < r.length * k := by
        simp only [List.length_cons, Nat.add_mul, Nat.one_mul] at h
        omega
      rw [flatMap_get hk k0 r (t - k) h2]
      have e1 : t / k = (t - k) / k + 1 := by
        have : t = (t - k) + k := by omega
        rw [this, Nat.add_div_right _ k0]
        simp
      have e2 : t % k = (t - k) % k := by
        have : t = (t - k) + k := by omega
        rw [this, Nat.add_mod_right]
        simp
      rw [e1, e2]
      simp
theorem flatMap_length {enc : α → List Value} {k : Nat} (hk : ∀ x, (enc x).length = k) (l : List α) : (l.flatMap enc).length = l.length * k := by
  induction l with
  | nil => simp
  | cons a r ih => simp [ih, hk, Nat.add_mul]; omega
theorem flatK_list {enc : α → List Value} {k : Nat} (hk : ∀ x, (enc x).length = k) (k0 : 0 < k) (d : Array α) : (Go.Sort.flatK enc k d).toList = d.toList.flatMap enc := by
  apply List.ext_getElem?
  intro t
  by_cases ht : t < d.size * k
  · rw [flatMap_get hk k0 d.toList t (by simpa using ht)]
    have h1 : (Go.Sort.flatK enc k d).toList[t]? = some ((Go.Sort.flatK enc k d)[t]!) := by
      rw [getElem!_pos _ t (by simpa using ht)]
      simp [ht]
    rw [h1, Go.Sort.get_flatK _ _ _ _ ht]
    have hd : t / k < d.size := Nat.div_lt_of_lt_mul (by rw [Nat.mul_comm]; exact ht)
    have hm : t % k < k := Nat.mod_lt _ k0
    have e : d.toList[t / k]?.getD default = d[t / k]! := by
      rw [getElem!_pos d (t / k) hd]
      simp [hd]
    rw [e]
    have hl : t % k < (enc d[t / k]!).length := by rw [hk]; exact hm
    rw [List.getElem?_eq_getElem hl, getElem!_pos (enc d[t / k]!) (t % k) hl]
  · rw [List.getElem?_eq_none (by simp; omega), List.getElem?_eq_none (by rw [flatMap_length hk]; simp; omega)]

theorem sort_own {P : Program} {ρ : Go.Shelf.Ren} (L : Go.Proofs.SlLaysF0.n6 P ρ) {k : Nat} (k0 : 0 < k) (aE : ∀ w, (isAgg (ρ.t 24)).run P w = .ok true w) (zE : ∀ w, (Go.sizeOf (ρ.t 24)).run P w = .ok k w)
    {enc : α → List Value} (hk : ∀ x, (enc x).length = k) (h1 : ∀ x, ∀ v ∈ enc x, v.oneCell' = true) (cf : α → α → Int) (hO : Go.Sort.SWO (Go.Proofs.ltOf cf)) (g : Nat) (cb : Array Value)
    (eg : ∀ args w, (callFunc g args).run P w = .ok (.enter g args) w) {blk cap e n : Nat} {xs : List α} {w : World} (hn : n = xs.length) (ho : Own w e k (some ⟨blk, 0, none⟩) n cap (xs.flatMap enc)) (hs : n ≤ 1000000)
    (hcmp : ∀ size w, Go.Proofs.CmpLays P g cb enc k cf blk 0 size w) :
    Calls P (ρ.f 6) #[.slice (some ⟨blk, 0, none⟩) n cap, .func (.func g) #[] cb] w fun e' w' => e' = .returned (.tuple #[]) ∧
      ∃ ys : List α, ys.Perm xs ∧ ys.Pairwise (fun x y => Go.Proofs.ltOf cf y x = false) ∧ Own w' e k (some ⟨blk, 0, none⟩) n cap (ys.flatMap enc) ∧ Fr (Is blk) w w' := by
  subst hn
  obtain ⟨h0, cur, hb, hcs, htk⟩ := ho.row _ rfl
  simp only at hb
  have hlt := lt_of_heap hb
  have hsz : xs.length * k ≤ cur.size := by rw [hcs]; exact Nat.mul_le_mul_right _ ho.le
  have hH : Go.Sort.HoldsK enc k w blk 0 xs.toArray := by
    intro j hj
    have hj' : j < xs.length * k := by simpa using hj
    refine ⟨?_, ?_⟩
    · rw [Nat.zero_add, cell_of_row w blk j cur e (0, 0) hb]
      have h2 : (Go.Sort.flatK enc k xs.toArray).toList[j]? = some ((Go.Sort.flatK enc k xs.toArray)[j]!) := by
        rw [getElem!_pos _ j (by simpa using hj)]
        simp [hj']
      have h3 : cur[j]? = (cur.toList.take (xs.length * k))[j]? := by
        rw [List.getElem?_take, if_pos hj']; simp
      rw [h3, htk]
      rw [flatK_list hk k0] at h2
      simpa using h2
    · rw [Nat.zero_add]
      exact frozen_of_row w blk j cur e hb
  have h := Go.Proofs.AnyQ.slices_SortFunc L k aE zE enc hk h1 cf hO g cb blk 0 cap xs.toArray w eg (hcmp _ _) hH hlt (by simp; omega)
  simp only [List.size_toArray] at h
  refine h.mono ?_
  rintro e' w' ⟨rfl, d', m, os, hp, hsd, rfl⟩
  obtain ⟨hps, _, hpp⟩ := hp
  simp only [List.size_toArray] at hps
  have hfull : ∀ (a : Array α), a.size = xs.length → (a.extract 0 xs.length).toList = a.toList := by
    intro a ha
    rw [← ha]
    simp
  rw [hfull _ hps, hfull _ (by simp)] at hpp
  have hps' : d'.size = xs.length := hps
  obtain ⟨cur', hcur', hw'⟩ : ∃ cur' : Array Value, (cur'.size = cur.size ∧ cur'.toList.take (xs.length * k) = d'.toList.flatMap enc) ∧ (Go.Proofs.sortWorldK enc k w blk 0 m d' os).heap[blk]? = some (.cells cur' e (0, 0)) := by
    refine ⟨Go.Sort.putCells id 0 (Go.Sort.flatK enc k d') cur, ⟨by simp [Go.Sort.putCells], ?_⟩, ?_⟩
    · apply List.ext_getElem?
      intro t
      rw [List.getElem?_take, ← flatK_list hk k0]
      by_cases ht : t < xs.length * k
      · rw [if_pos ht]
        have h3 : t < cur.size := by omega
        have h4 : t < d'.size * k := by rw [hps']; exact ht
        have h5 : (Go.Sort.flatK enc k d').toList[t]? = some ((Go.Sort.flatK enc k d')[t]!) := by
          rw [getElem!_pos _ t (by simpa using h4)]
          simp [h4]
        rw [h5]
        simp [Go.Sort.putCells, h3, h4]
      · rw [if_neg ht, List.getElem?_eq_none (by simp [hps']; omega)]
    · show (Go.Sort.grow (Go.Sort.putRowK enc k (Go.Sort.ahead w m) blk 0 d') os).heap[blk]? = _
      rw [Go.Sort.heap_grow_old _ _ (by simp [Go.Sort.putRowK, Go.Sort.putRow, Go.Sort.mapBlock, Go.Sort.ahead]; exact hlt)]
      show ((Go.Sort.ahead w m).heap.modify blk _)[blk]? = _
      show (w.heap.modify blk _)[blk]? = _
      rw [Array.getElem?_modify, if_pos rfl, hb]
      rfl
  refine ⟨rfl, d'.toList, hpp, ?_, ⟨by rw [flatMap_length hk]; simp [hps'], ho.le, ho.capLe, ho.nocap, fun a ha => ?_⟩, ⟨rfl, rfl, rfl, ?_, ?_⟩⟩
  · rw [List.pairwise_iff_getElem]
    intro i j hi hj hij
    have := hsd i j (Nat.zero_le _) hij (by rw [Array.length_toList] at hj; omega)
    rw [getElem!_pos d' j (by simpa using hj), getElem!_pos d' i (by simpa using hi)] at this
    simpa using this
  · cases ha
    exact ⟨rfl, cur', hw', by rw [hcur'.1]; exact hcs, hcur'.2⟩
  · simp [Go.Proofs.sortWorldK, Go.Sort.putRowK, Go.Sort.putRow, Go.Sort.mapBlock, Go.Sort.ahead]
  · intro i hi hne
    show (Go.Sort.grow (Go.Sort.putRowK enc k (Go.Sort.ahead w m) blk 0 d') os).heap[i]? = _
    rw [Go.Sort.heap_grow_old _ _ (by simp [Go.Sort.putRowK, Go.Sort.putRow, Go.Sort.mapBlock, Go.Sort.ahead]; exact hi)]
    show (w.heap.modify blk _)[i]? = _
    rw [Array.getElem?_modify, if_neg (fun e => hne e.symm)]
end
end Go.Proofs.YtgmaelndhmnjiaaDoor

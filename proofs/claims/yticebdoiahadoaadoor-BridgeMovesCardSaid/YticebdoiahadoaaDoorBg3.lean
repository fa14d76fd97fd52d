/- slices of ints: Insert, BinarySearch; with, without. -/
import Derived.Test.YticebdoiahadoaaDoorBg2
import Derived.Test.YticebdoiahadoaaDoorBgLay
namespace Go.Proofs.YticebdoiahadoaaDoor
open Go.RowKit
set_option linter.unusedVariables false
set_option linter.unusedSimpArgs false
theorem set_row' {w : World} {b : Nat} {cs : Array Value} {e : TypeId} {f : Nat × Nat} (h : w.heap[b]? = some (.cells cs e f)) (j : Nat) (u : Value) : (w.setCell ⟨b, j, none⟩ u).heap[b]? = some (.cells (cs.setIfInBounds j u) e f) := by
  simp only [World.setCell, Array.getElem?_modify, if_true, h, Option.map_some, Option.isSome_none, Bool.false_eq_true, if_false]
/-- What a row reads when cells are laid in it. -/
theorem setCells_row {b : Nat} {e : TypeId} {f : Nat × Nat} : ∀ (vs : List Value) (o : Nat) (w : World) (cur : Array Value), w.heap[b]? = some (.cells cur e f) →
    ∃ cur', (w.setCells b o vs).heap[b]? = some (.cells cur' e f) ∧ cur'.size = cur.size ∧ ∀ j, j < cur.size → cur'[j]? = if o ≤ j ∧ j < o + vs.length then vs[j - o]? else cur[j]?
  | [], o, w, cur, h => ⟨cur, h, rfl, fun j hj => by rw [if_neg (by simp only [List.length_nil]; omega)]⟩
  | v :: r, o, w, cur, h => by
    obtain ⟨cur', h1, h2, h3⟩ := setCells_row r (o + 1) _ _ (set_row' h o v)
    refine ⟨cur', h1, by rw [h2]; simp, fun j hj => ?_⟩
    rw [h3 j (by simpa using hj)]
    by_cases hjo : j = o
    · subst hjo
      rw [if_neg (by omega), if_pos (by simp)]
      simp [hj]
    · by_cases hin : o + 1 ≤ j ∧ j < o + 1 + r.length
      · rw [if_pos hin, if_pos (by simp; omega), show j - o = (j - (o + 1)) + 1 by omega]
        rfl
      · rw [if_neg hin, if_neg (by simp; omega), Array.getElem?_setIfInBounds_ne (fun h => hjo h.symm)]
theorem evI_take (zs : List Int) (k : Nat) : (zs.map evI).take k = (zs.take k).map evI := (List.map_take).symm
theorem cell_of_own {w : World} {b n cap : Nat} {zs : List Int} (h : OI w (some ⟨b, 0, none⟩) n cap zs) (j : Nat) (v : Value) (hj : (zs.map evI)[j]? = some v) : w.cell? ⟨b, 0 + j, none⟩ = some v := by
  have := h.2.sl.cell _ rfl j v hj
  rwa [Addr.add_lit] at this
/-- A row is what its object says. -/
theorem OI.mk {w : World} {b n cap : Nat} {zs : List Int} {cur : Array Value} (hb : w.heap[b]? = some (.cells cur 3 (0, 0))) (hs : cur.size = cap) (hn : n = zs.length) (hc : n ≤ cap) (hc2 : cap ≤ 9223372036854775807) (hr : ∀ j, j < n → cur[j]? = (zs.map evI)[j]?) :
    OI w (some ⟨b, 0, none⟩) n cap zs := by
  refine ⟨hn, by simp [hn], hc, hc2, fun h => (by cases h), fun a ha => ?_⟩
  cases ha
  refine ⟨rfl, cur, hb, by simp [hs], ?_⟩
  rw [Nat.mul_one]
  apply List.ext_getElem?
  intro j
  rw [List.getElem?_take]
  split
  · rename_i hj
    rw [← hr j hj]; simp
  · rw [List.getElem?_eq_none (by simp; omega)]
def InsP (w : World) (ao : Option Addr) (n : Nat) (zs : List Int) (e : Ending) (w' : World) : Prop :=
  ∃ ao' cap', e = .returned (.slice ao' (n + 1) cap') ∧ OI w' ao' (n + 1) cap' zs ∧ Fr (At ao) w w' ∧ (ao' = ao ∨ ∀ a, ao' = some a → w.heap.size ≤ a.block)
theorem ins_get {zs : List Int} {x : Int} {i : Nat} (hi : i ≤ zs.length) (j : Nat) : ((zs.take i ++ x :: zs.drop i).map evI)[j]? = if j < i then (zs.map evI)[j]? else if j = i then some (evI x) else (zs.map evI)[j - 1]? := by
  rw [List.map_append, List.map_cons]
  by_cases h1 : j < i
  · rw [if_pos h1, List.getElem?_append_left (by simp; omega), List.getElem?_map, List.getElem?_take, if_pos h1, List.getElem?_map]
  · rw [if_neg h1, List.getElem?_append_right (by simp; omega)]
    have hl : ((zs.take i).map evI).length = i := by simp; omega
    rw [hl]
    by_cases h2 : j = i
    · subst h2; simp
    · rw [if_neg h2, show j - i = (j - i - 1) + 1 by omega, List.getElem?_cons_succ, List.getElem?_map, List.getElem?_drop, List.getElem?_map, show i + (j - i - 1) = j - 1 by omega]

set_option maxRecDepth 100000 in
set_option maxHeartbeats 2000000 in
theorem insertI_any {w : World} {ao : Option Addr} {n cap : Nat} {zs : List Int} (h : OI w ao n cap zs) {vb : Nat} {x : Int} (hv : w.heap[vb]? = some (.cells #[.int .i64 x] 3 (0, 0))) (hne : ∀ a, ao = some a → a.block ≠ vb) {i : Nat} (hi : i ≤ n) (hn : n ≤ 1000000) :
    Calls Tryd.prog 23 #[.slice ao n cap, .int .i64 i, .slice (some ⟨vb, 0, none⟩) 1 1] w (InsP w ao n (zs.take i ++ x :: zs.drop i)) := by
  have hc1 := h.2.le
  have hc2 := h.2.capLe
  have hzl := h.1
  have hvs : ∀ j v, [evI x][j]? = some v → w.cell? ⟨vb, 0 + j, none⟩ = some v := by
    intro j v hj
    rw [Nat.zero_add, cell_of_row w vb j _ _ _ hv]
    have : j = 0 := by have := (List.getElem?_eq_some_iff.1 hj).1; simpa using this
    subst this
    exact hj
  have hone : ∀ v ∈ [evI x], v.oneCell' = true := by intro v hm; simp at hm; subst hm; rfl
  have hll : (zs.map evI).length = n := by simp [hzl]
  by_cases hin : i = n
  · subst hin
    have htk : zs.take i ++ x :: zs.drop i = zs ++ [x] := by rw [List.take_of_length_le (by omega), List.drop_of_length_le (by omega)]
    rw [htk]
    by_cases hroom : i + 1 ≤ cap
    · cases ao with
      | none => have := h.2.nocap rfl; omega
      | some a =>
        obtain ⟨ha, cur, hcur, hcs, hct⟩ := h.2.row a rfl
        obtain ⟨b, o, s⟩ := a
        cases ha
        have hsp : ∀ j, j < 1 → (w.cell? ⟨b, 0 + i + j, none⟩).isSome = true := fun j hj => by
          rw [cell_of_row w b _ _ _ _ hcur]; simp; omega
        have hfz : ∀ j, j < 1 → w.frozen? ⟨b, 0 + i + j, none⟩ = false := fun j hj => frozen_of_row w b _ _ _ hcur
        have hh := Go.Proofs.Any2.slices_Insert_int_end_room layInsert b 0 i cap vb 0 1 1 [evI x] w (by omega) hroom hc2 rfl hsp hfz hvs hone
        change Calls Tryd.prog 23 _ _ _ at hh
        refine hh.mono ?_
        rintro e w' ⟨rfl, rfl⟩
        obtain ⟨cur', h1, h2, h3⟩ := setCells_row [evI x] (0 + i) w cur hcur
        refine ⟨_, _, rfl, OI.mk h1 (by rw [h2]; omega) (by simp [hzl]) hroom hc2 ?_, Fr.setCells ⟨_, rfl, rfl⟩ _ _ _ (Fr.refl _ _), .inl rfl⟩
        intro j hj
        rw [h3 j (by omega)]
        rw [List.map_append]
        by_cases hji : j < i
        · rw [if_neg (by omega), List.getElem?_append_left (by rw [hll]; exact hji)]
          have := congrArg (fun l => l[j]?) hct
          simpa [List.getElem?_take, hji] using this
        · have : j = i := by omega
          subst this
          rw [if_pos (by simp), List.getElem?_append_right (by rw [hll]; exact Nat.le_refl _), hll]
          simp
    · have hh := Go.Proofs.Any2.slices_Insert_int_end_grow layInsert ao i cap vb 0 1 1 (zs.map evI) [evI x] w (by omega) hc1 (by omega) (by omega) hll rfl (fun h0 => by have := h.2.nocap h0; omega)
        (fun a ha j v hj => h.2.sl.cell a ha j v hj) hvs hone
      change Calls Tryd.prog 23 _ _ _ at hh
      refine hh.mono ?_
      rintro e w' ⟨rfl, rfl⟩
      have hg := grownCap_ge w (i + 1) cap 3
      have hg2 := grownCap_le_maxLen w (i + 1) cap 3 (by unfold maxLen; omega)
      refine ⟨_, _, rfl, OI.mk (heap_alloc_new w.drew _) ?_ (by simp [hzl]) hg (by unfold maxLen at hg2; exact hg2) ?_, ?_, .inr (fun a ha => by cases ha; exact Nat.le_refl _)⟩
      · simp only [Array.size_append, List.size_toArray, size_zeroCells, List.length_append, hll, List.length_singleton, Value.cells, List.size_toArray, Nat.mul_one]
        have h9 : Go.grownCap w (i + 1) cap (layInsert_ren.t 3) = Go.grownCap w (i + 1) cap 3 := rfl
        omega
      · intro j hj
        rw [← Array.getElem?_toList, Array.toList_append, List.getElem?_append_left (by simp [hzl]; omega)]
        simp
      · exact ((Fr.refl _ w).drew).alloc _
  · have hil : i < n := by omega
    cases ao with
    | none => have := h.2.nocap rfl; omega
    | some a =>
      obtain ⟨ha, cur, hcur, hcs, hct⟩ := h.2.row a rfl
      have hvb : vb ≠ a.block := fun e => hne a rfl e.symm
      obtain ⟨b, o, s⟩ := a
      cases ha
      have hcur' : ∀ j, j < n → cur[j]? = (zs.map evI)[j]? := by
        intro j hj
        have := congrArg (fun l => l[j]?) hct
        simpa [List.getElem?_take, hj] using this
      by_cases hroom : n + 1 ≤ cap
      · have hsp : ∀ j, j < n + 1 → (w.cell? ⟨b, 0 + j, none⟩).isSome = true := fun j hj => by
          rw [cell_of_row w b _ _ _ _ hcur]; simp; omega
        have hfz : ∀ j, j < n + 1 → w.frozen? ⟨b, 0 + j, none⟩ = false := fun j hj => frozen_of_row w b _ _ _ hcur
        have hsa : w.shape? vb = some (3, 1) := by unfold World.shape?; rw [hv]; rfl
        have hsb : w.shape? b = some (3, cur.size) := by unfold World.shape?; rw [hcur]
        have hh := Go.Proofs.Any2.slices_Insert_int_shift layInsert b 0 n cap i vb 0 1 1 (zs.map evI) [evI x] w hil (by omega) hroom hc2 hvb hll rfl (cell_of_own h) hsp hfz hvs (evI_one zs) hone 3 3 1 cur.size hsa hsb (by omega)
          (frozen_of_row w vb 0 _ _ hv) (frozen_of_row w vb 1 _ _ hv)
        change Calls Tryd.prog 23 _ _ _ at hh
        refine hh.mono ?_
        rintro e w' ⟨rfl, rfl⟩
        obtain ⟨c1, h1, h2, h3⟩ := setCells_row ((zs.map evI).drop i) (0 + (i + 1)) w.drew cur hcur
        obtain ⟨c2, g1, g2, g3⟩ := setCells_row [evI x] (0 + i) _ _ h1
        have hdl : ((zs.map evI).drop i).length = n - i := by rw [List.length_drop, hll]
        refine ⟨_, _, rfl, OI.mk g1 (by omega) (by simp; omega) hroom hc2 ?_, Fr.setCells ⟨_, rfl, rfl⟩ _ _ _ (Fr.setCells ⟨_, rfl, rfl⟩ _ _ _ ((Fr.refl _ w).drew)), .inl rfl⟩
        intro j hj
        rw [g3 j (by omega), ins_get (by omega)]
        by_cases k1 : j < i
        · rw [if_neg (by omega), h3 j (by omega), if_neg (by omega), if_pos k1, hcur' j (by omega)]
        · by_cases k2 : j = i
          · subst k2
            rw [if_pos (by simp), if_neg (by omega), if_pos rfl]
            simp
          · rw [if_neg (by simp; omega), h3 j (by omega), if_pos (by omega), if_neg k1, if_neg k2, List.getElem?_drop]
            congr 1
            omega
      · have hh := Go.Proofs.Any2.slices_Insert_int_grow layInsert b 0 n cap i vb 0 1 1 (zs.map evI) [evI x] w hil (by omega) hc1 (by omega) (by omega) hll rfl (cell_of_own h) hvs (evI_one zs) hone
        change Calls Tryd.prog 23 _ _ _ at hh
        refine hh.mono ?_
        rintro e w' ⟨rfl, rfl⟩
        have hg := grownCap_ge w (n + 1) cap 3
        have hg2 := grownCap_le_maxLen w (n + 1) cap 3 (by unfold maxLen; omega)
        have h9 : Go.grownCap w (n + 1) cap (layInsert_ren.t 3) = Go.grownCap w (n + 1) cap 3 := rfl
        obtain ⟨row, hrow⟩ : ∃ row : Array Value, row = ((zs.map evI).take i).toArray ++ Builtin.zeroCells (Value.int .i64 0).cells (n + 1 - i) ++ Builtin.zeroCells (Value.int .i64 0).cells (Go.grownCap w (n + 1) cap 3 - (n + 1)) := ⟨_, rfl⟩
        have hrs : row.size = Go.grownCap w (n + 1) cap 3 := by
          rw [hrow]
          simp only [Array.size_append, List.size_toArray, size_zeroCells, List.length_take, hll, Value.cells, List.length_cons, List.length_nil, Nat.mul_one]
          omega
        have hrt : ∀ j, j < i → row[j]? = (zs.map evI)[j]? := by
          intro j hj
          rw [hrow, ← Array.getElem?_toList, Array.toList_append, Array.toList_append, List.append_assoc, List.getElem?_append_left (by simp; omega)]
          simp [List.getElem?_take, hj]
        have hnew := heap_alloc_new w (.cells row 3)
        obtain ⟨c1, h1, h2, h3⟩ := setCells_row [evI x] i (w.alloc (.cells row 3)).drew row hnew
        obtain ⟨c2, g1, g2, g3⟩ := setCells_row ((zs.map evI).drop i) (i + 1) (((w.alloc (.cells row 3)).drew).setCells w.heap.size i [evI x]).drew c1 h1
        have hdl : ((zs.map evI).drop i).length = n - i := by rw [List.length_drop, hll]
        have hOI : OI (((((w.alloc (.cells row 3)).drew).setCells w.heap.size i [evI x]).drew).setCells w.heap.size (i + 1) ((zs.map evI).drop i)) (some ⟨w.heap.size, 0, none⟩) (n + 1) (Go.grownCap w (n + 1) cap 3) (zs.take i ++ x :: zs.drop i) := by
          refine OI.mk g1 (by omega) (by simp; omega) hg (by unfold maxLen at hg2; exact hg2) ?_
          intro j hj
          rw [g3 j (by omega), ins_get (by omega)]
          by_cases k1 : j < i
          · rw [if_neg (by omega), h3 j (by omega), if_neg (by simp; omega), if_pos k1, hrt j k1]
          · by_cases k2 : j = i
            · subst k2
              rw [if_neg (by omega), h3 j (by omega), if_pos (by simp), if_neg (by omega), if_pos rfl]
              simp
            · rw [if_pos (by omega), if_neg k1, if_neg k2, List.getElem?_drop]
              congr 1
              omega
        have hFr : Fr (Up w.heap.size) w (((((w.alloc (.cells row 3)).drew).setCells w.heap.size i [evI x]).drew).setCells w.heap.size (i + 1) ((zs.map evI).drop i)) :=
          Fr.setCells (Nat.le_refl _) _ _ _ ((Fr.setCells (Nat.le_refl _) _ _ _ (((Fr.refl _ w).alloc _).drew)).drew)
        subst hrow
        exact ⟨_, _, rfl, hOI, (hFr.up (Nat.le_refl _)).of_no, .inr (fun a ha => by cases ha; exact Nat.le_refl _)⟩

/-- A rising row with a number, or without it. -/
def addI (zs : List Int) (x : Int) : List Int := zs.filter (fun y => decide (y < x)) ++ x :: zs.filter (fun y => decide (x < y))
def delI (zs : List Int) (x : Int) : List Int := zs.filter (fun y => !(decide (y = x)))
def Ris (zs : List Int) : Prop := zs.Pairwise (· < ·)
theorem ris_split {zs : List Int} (h : Ris zs) {x : Int} (hx : ¬ x ∈ zs) : zs.take (zs.countP (· < x)) = zs.filter (fun y => decide (y < x)) ∧ zs.drop (zs.countP (· < x)) = zs.filter (fun y => decide (x < y)) := by
  induction zs with
  | nil => exact ⟨rfl, rfl⟩
  | cons a r ih =>
    obtain ⟨h1, h2⟩ := List.pairwise_cons.1 h
    have hxr : ¬ x ∈ r := fun h => hx (List.mem_cons_of_mem _ h)
    have hxa : x ≠ a := fun h => hx (by rw [h]; exact List.mem_cons_self ..)
    obtain ⟨i1, i2⟩ := ih h2 hxr
    by_cases hax : a < x
    · rw [List.countP_cons_of_pos (by simpa using hax), List.take_succ_cons, List.drop_succ_cons, i1, i2, List.filter_cons_of_pos (by simpa using hax), List.filter_cons_of_neg (by simp; omega)]
      exact ⟨rfl, rfl⟩
    · have hall : ∀ y ∈ a :: r, ¬ y < x := by
        intro y hy
        rcases List.mem_cons.1 hy with rfl | hy
        · exact hax
        · have := h1 y hy; omega
      have h0 : (a :: r).countP (· < x) = 0 := by
        rw [List.countP_eq_zero]
        intro y hy
        simpa using hall y hy
      rw [h0]
      constructor
      · rw [List.take_zero]
        symm
        rw [List.filter_eq_nil_iff]
        intro y hy
        simpa using hall y hy
      · rw [List.drop_zero]
        symm
        rw [List.filter_eq_self]
        intro y hy
        have h5 := hall y hy
        have h6 : y ≠ x := fun e => hx (e ▸ hy)
        simp; omega
theorem Ris.add {zs : List Int} (h : Ris zs) (x : Int) : Ris (addI zs x) := by
  refine List.pairwise_append.2 ⟨List.Pairwise.filter _ h, List.pairwise_cons.2 ⟨fun b hb => by simpa using (List.mem_filter.1 hb).2, List.Pairwise.filter _ h⟩, ?_⟩
  intro a ha b hb
  have h1 : a < x := by simpa using (List.mem_filter.1 ha).2
  rcases List.mem_cons.1 hb with rfl | hb
  · exact h1
  · have h2 : x < b := by simpa using (List.mem_filter.1 hb).2
    omega
theorem Ris.del {zs : List Int} (h : Ris zs) (x : Int) : Ris (delI zs x) := List.Pairwise.filter _ h
theorem mem_addI {zs : List Int} {x y : Int} : y ∈ addI zs x ↔ y = x ∨ y ∈ zs := by
  unfold addI
  simp only [List.mem_append, List.mem_cons, List.mem_filter, decide_eq_true_eq]
  constructor
  · rintro (⟨h, -⟩ | h | ⟨h, -⟩)
    · exact .inr h
    · exact .inl h
    · exact .inr h
  · rintro (h | h)
    · exact .inr (.inl h)
    · rcases Int.lt_trichotomy y x with h1 | h1 | h1
      · exact .inl ⟨h, h1⟩
      · exact .inr (.inl h1)
      · exact .inr (.inr ⟨h, h1⟩)
theorem mem_delI {zs : List Int} {x y : Int} : y ∈ delI zs x ↔ y ∈ zs ∧ y ≠ x := by simp [delI]
theorem addI_len {zs : List Int} {x : Int} (h : Ris zs) (hx : ¬ x ∈ zs) : (addI zs x).length = zs.length + 1 := by
  have h1 := ris_split h hx
  have h2 := congrArg List.length (List.take_append_drop (zs.countP (· < x)) zs)
  rw [h1.1, h1.2] at h2
  unfold addI
  simp at h2 ⊢
  omega
/-- slices.BinarySearch at a rising row. -/
theorem bsearchI_any {w : World} {ao : Option Addr} {n cap : Nat} {zs : List Int} (h : OI w ao n cap zs) (hs : Ris zs) (hn : n ≤ 1000000) (x : Int) {r : Bool} (hr : decide (x ∈ zs) = r) :
    Calls Tryd.prog 22 #[.slice ao n cap, .int .i64 x] w fun e w' => e = .returned (.tuple #[.int .i64 (zs.countP (· < x) : Nat), .bool r]) ∧ ∃ q, w' = w.drewN q := by
  have hzl := h.1
  cases ao with
  | none =>
    have h1 := h.2.nocap rfl
    have h2 := h.2.le
    obtain rfl : n = 0 := by omega
    obtain rfl : zs = [] := List.eq_nil_of_length_eq_zero h.1.symm
    have hh := Go.Proofs.Any.slices_BinarySearch_int_empty laySearch none cap x w
    change Calls Tryd.prog 22 _ _ _ at hh
    refine hh.mono ?_
    rintro e w' ⟨rfl, rfl⟩
    obtain rfl : r = false := by rw [← hr]; simp
    exact ⟨rfl, 0, rfl⟩
  | some a =>
    obtain ⟨ha, -⟩ := h.2.row a rfl
    obtain ⟨b, o, s⟩ := a
    cases ha
    have hh := Go.Proofs.Any.slices_BinarySearch_int laySearch b 0 n cap zs x w (by omega) (by omega) (fun j hj => by
      rw [cell_of_own h j (evI (zs.getD j 0)) (by rw [List.getElem?_map, List.getElem?_eq_getElem hj, List.getD_eq_getElem?_getD, List.getElem?_eq_getElem hj]; rfl)]; rfl)
      (by rw [List.take_of_length_le (by omega)]; exact List.Pairwise.imp (fun h => Int.le_of_lt h) hs)
    change Calls Tryd.prog 22 _ _ _ at hh
    refine hh.mono ?_
    rintro e w' ⟨rfl, hw⟩
    rw [List.take_of_length_le (by omega)]
    refine ⟨?_, hw⟩
    rw [← hr]
    simp
def WithP (w : World) (zs : List Int) (e : Ending) (w' : World) : Prop :=
  ∃ ao' cap', e = .returned (.slice ao' zs.length cap') ∧ OI w' ao' zs.length cap' zs ∧ Fr No w w' ∧ (∀ a, ao' = some a → w.heap.size ≤ a.block)
set_option maxRecDepth 100000 in
set_option maxHeartbeats 2000000 in
theorem bgWith_any {w : World} {ao : Option Addr} {n cap : Nat} {zs : List Int} (h : OI w ao n cap zs) (hs : Ris zs) (hn : n ≤ 100000) (x : Int) (hx : ¬ x ∈ zs) :
    Calls Tryd.prog 16 #[.slice ao n cap, .int .i64 x] w (WithP w (addI zs x)) := by
  have H := Lib.hid h
  have HX := Lib.hid hx
  have HS := Lib.hid hs
  have HB := Lib.hid (fun w (h : OI w ao n cap zs) => bsearchI_any h hs (by omega) x (r := false) (by simpa using hx))
  obtain ⟨k, hk⟩ : ∃ k, zs.countP (· < x) = k := ⟨_, rfl⟩
  have hkn : k ≤ n := by rw [← hk, h.1]; exact List.countP_le_length
  rw [hk] at HB
  have HK := Lib.hid hk
  clear h hx hs hk
  go_enter Tryd.func16, Tryd.ntmps16
  go_wp2_with fail
  refine (HB.out w H.out).mono ?_
  rintro e w1 ⟨rfl, q, rfl⟩
  have H1 := Lib.hid (H.out.no ((Fr.refl No w).drewN q))
  have F1 := Lib.hid ((Fr.refl No w).drewN q)
  generalize w.drewN q = w1 at H1 F1 ⊢
  go_wp2_with fail
  refine (cloneI_any H1.out.sl (by omega)).mono ?_
  rintro e w2 ⟨bo, bc, rfl, ob, f2, hbn⟩
  have O2 := Lib.hid ob
  have F2 := Lib.hid (F1.out.then_no f2)
  have hs1 := F1.out.size
  have HBN := Lib.hid hbn
  have F12 := Lib.hid f2
  clear ob f2 hbn H1 F1
  go_wp2_with fail
  have B3 := Lib.hid (heap_alloc_new w2 (.cells #[.int .i64 x] 3))
  have O3 := Lib.hid (O2.out.no ((Fr.refl No w2).alloc (.cells #[.int .i64 x] 3)))
  have F3 := Lib.hid (F2.out.then_no ((Fr.refl No w2).alloc (.cells #[.int .i64 x] 3)))
  have LT := Lib.hid O2.out.2.lt
  refine (insertI_any O3.out B3.out (fun a ha => by have := LT.out a ha; omega) hkn (by omega)).mono ?_
  rintro e w4 ⟨co, cc, rfl, oc, f4, hcn⟩
  have hz : zs.take k ++ x :: zs.drop k = addI zs x := by
    obtain ⟨h1, h2⟩ := ris_split HS.out HX.out
    rw [HK.out] at h1 h2
    rw [h1, h2]; rfl
  rw [hz] at oc
  have hlen : n + 1 = (addI zs x).length := oc.1
  have F4 := Lib.hid (F3.out.then f4 (fun i hi ⟨a, ha, hab⟩ => by have := HBN.out a ha; omega))
  have O4 := Lib.hid oc
  have HC := Lib.hid hcn
  have HL := Lib.hid hlen
  have hs2 := F12.out.size
  have hsz : (w2.alloc (.cells #[.int .i64 x] 3)).heap.size = w2.heap.size + 1 := by simp
  have HSZ := Lib.hid hsz
  clear oc f4 hcn hz hlen B3 O3 F3 O2 F2 hsz
  go_wp2_with fail
  go_ret
  refine ⟨co, cc, by rw [HL.out]; rfl, by rw [← HL.out]; exact O4.out, F4.out, ?_⟩
  intro a ha
  rcases HC.out with h | h
  · have := HBN.out a (by rw [← h]; exact ha); omega
  · have := h a ha; have := HSZ.out; omega
set_option maxRecDepth 100000 in
theorem bgWithoutF_any {W : World} {b1 : Nat} {x y : Int} (hb : W.heap[b1]? = some (.cells #[.int .i64 x] 3 (0, 0))) : Calls Tryd.prog 29 #[evI y, .pointer (some ⟨b1, 0, none⟩)] W fun e' W' => e' = .returned (.bool (decide (y = x))) ∧ Fr No W W' := by
  have c0 := cell_box hb
  clear hb
  unfold evI
  go_enter Tryd.func29, Tryd.ntmps29
  go_wp2_with fail
  go_ret
  exact ⟨rfl, Fr.refl No W⟩
set_option maxRecDepth 100000 in
set_option maxHeartbeats 2000000 in
theorem bgWithout_any {w : World} {ao : Option Addr} {n cap : Nat} {zs : List Int} (h : OI w ao n cap zs) (hn : n ≤ 100000) (x : Int) :
    Calls Tryd.prog 20 #[.slice ao n cap, .int .i64 x] w (WithP w (delI zs x)) := by
  have H := Lib.hid h
  clear h
  go_enter Tryd.func20, Tryd.ntmps20
  go_wp2_with fail
  have B1 := Lib.hid (heap_alloc_new w (.cells #[.int .i64 x] 3))
  have F1 := Lib.hid ((Fr.refl No w).alloc (.cells #[.int .i64 x] 3))
  have H1 := Lib.hid (H.out.no F1.out)
  have S1 : w.heap.size < (w.alloc (.cells #[.int .i64 x] 3)).heap.size := by simp
  generalize w.alloc (.cells #[.int .i64 x] 3) = w1 at B1 F1 H1 S1 ⊢
  refine (cloneI_any H1.out.sl (by omega)).mono ?_
  rintro e w2 ⟨bo, bc, rfl, ob, f2, hbn⟩
  have O2 := Lib.hid ob
  have F2 := Lib.hid (F1.out.then_no f2)
  have B2 := Lib.hid (f2.heap B1.out (fun h => h))
  have HBN := Lib.hid hbn
  clear ob f2 hbn H1 F1 B1
  go_wp2_with fail
  have hlk : LooksI w2 (At bo) 29 #[.pointer (some ⟨w.heap.size, 0, none⟩)] zs (fun y => decide (y = x)) := by
    intro W hW b hb
    exact bgWithoutF_any (hW.heap B2.out (fun ⟨a, ha, hab⟩ => by have := HBN.out a ha; omega))
  have HLK := Lib.hid hlk
  clear hlk
  refine (deleteFI_any O2.out.1 (by omega) O2.out.2 HLK.out (enters_of Tryd.func29 (by kernel_rfl) rfl)).mono ?_
  rintro e w3 ⟨n', rfl, hn', o3, f3⟩
  have F3 := Lib.hid (F2.out.then f3 (fun i hi ⟨a, ha, hab⟩ => by have := HBN.out a ha; omega))
  have O3 := Lib.hid o3
  have HN' := Lib.hid hn'
  clear o3 f3 hn' O2 F2 HLK
  go_wp2_with fail
  go_ret
  have hd : (zs.filter fun b => !(decide (b = x))) = delI zs x := rfl
  have h1 := HN'.out
  have h2 := O3.out
  rw [hd] at h1 h2
  subst h1
  exact ⟨bo, bc, rfl, ⟨rfl, h2⟩, F3.out, fun a ha => by have := HBN.out a ha; omega⟩
end Go.Proofs.YticebdoiahadoaaDoor
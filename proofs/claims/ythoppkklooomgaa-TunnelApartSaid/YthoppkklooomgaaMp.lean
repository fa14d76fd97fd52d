/- Program-independent: maps as lists of entries, in the order in which they were laid; iterations. -/
import Derived.Test.YthoppkklooomgaaBase
import Derived.Maps.Own
import Derived.Maps.OwnOps
import Derived.Maps.OwnSet
import Derived.Maps.RangeWalk
import Derived.Maps.OwnIn
import Derived.RangeFuncNested
namespace Go.Proofs.Ythoppkklooomgaa
open Go.RowKit Go.ChangeMaps Go.MapKept
open Go.Maps (Keyed)
set_option linter.unusedVariables false
set_option linter.unusedSectionVars false
set_option linter.unusedSimpArgs false
set_option linter.unnecessarySimpa false
section plain
variable {κ β : Type} [DecidableEq κ]
/-- What lies at a key. -/
def mget (l : List (κ × β)) (k : κ) : Option β := (l.find? (fun p => decide (p.1 = k))).map (·.2)
def mdel (l : List (κ × β)) (k : κ) : List (κ × β) := l.filter (fun p => decide (p.1 ≠ k))
def mput (l : List (κ × β)) (k : κ) (v : β) : List (κ × β) := if (mget l k).isSome then l.map (fun p => if p.1 = k then (k, v) else p) else l ++ [(k, v)]

theorem mget_none {l : List (κ × β)} {k : κ} : mget l k = none ↔ ∀ p ∈ l, p.1 ≠ k := by
  simp [mget, List.find?_eq_none]
theorem mget_some {l : List (κ × β)} {k : κ} {v : β} (h : mget l k = some v) : (k, v) ∈ l := by
  unfold mget at h
  cases hf : l.find? (fun p => decide (p.1 = k)) with
  | none => simp [hf] at h
  | some p =>
    have h1 := List.mem_of_find?_eq_some hf
    have h2 := List.find?_some hf
    simp [hf] at h
    simp at h2
    obtain ⟨a, b⟩ := p
    simp at h h2
    subst h h2
    exact h1
theorem mget_of_mem {l : List (κ × β)} (nd : (l.map (·.1)).Nodup) {k : κ} {v : β} (h : (k, v) ∈ l) : mget l k = some v := by
  induction l with
  | nil => simp at h
  | cons a r ih =>
    simp at nd
    rcases List.mem_cons.1 h with rfl | h
    · simp [mget]
    · have hne : a.1 ≠ k := by
        intro e
        exact nd.1 _ (by rw [e]; exact h)
      have := ih (by simpa using nd.2) h
      simpa [mget, List.find?_cons, hne] using this
theorem mget_iff {l : List (κ × β)} (nd : (l.map (·.1)).Nodup) {k : κ} {v : β} : mget l k = some v ↔ (k, v) ∈ l := ⟨mget_some, mget_of_mem nd⟩
theorem mget_perm {l l' : List (κ × β)} (nd : (l.map (·.1)).Nodup) (h : l.Perm l') (k : κ) : mget l k = mget l' k := by
  have nd' : (l'.map (·.1)).Nodup := (h.map _).nodup_iff.1 nd
  cases h1 : mget l k with
  | some v => exact (mget_of_mem nd' (h.mem_iff.1 (mget_some h1))).symm
  | none =>
    rw [mget_none] at h1
    exact (mget_none.2 (fun p hp => h1 p (h.mem_iff.2 hp))).symm
theorem mdel_nodup {l : List (κ × β)} (nd : (l.map (·.1)).Nodup) (k : κ) : ((mdel l k).map (·.1)).Nodup := (List.filter_sublist.map _).nodup nd
theorem mem_mdel {l : List (κ × β)} {k : κ} {p : κ × β} : p ∈ mdel l k ↔ p ∈ l ∧ p.1 ≠ k := by simp [mdel]
theorem mget_mdel {l : List (κ × β)} (nd : (l.map (·.1)).Nodup) (k k' : κ) : mget (mdel l k) k' = if k' = k then none else mget l k' := by
  split
  · rename_i h; subst h
    rw [mget_none]; intro p hp; exact (mem_mdel.1 hp).2
  · rename_i h
    cases h1 : mget l k' with
    | none =>
      rw [mget_none] at h1 ⊢
      exact fun p hp => h1 p (mem_mdel.1 hp).1
    | some v => exact mget_of_mem (mdel_nodup nd k) (mem_mdel.2 ⟨mget_some h1, h⟩)
theorem mput_keys (l : List (κ × β)) (k : κ) (v : β) : (mput l k v).map (·.1) = if (mget l k).isSome then l.map (·.1) else l.map (·.1) ++ [k] := by
  unfold mput
  split
  · rw [List.map_map]
    apply List.map_congr_left
    intro p _
    simp only [Function.comp]
    split
    · rename_i h; exact h.symm
    · rfl
  · simp
theorem mput_nodup {l : List (κ × β)} (nd : (l.map (·.1)).Nodup) (k : κ) (v : β) : ((mput l k v).map (·.1)).Nodup := by
  rw [mput_keys]
  split
  · exact nd
  · rename_i h
    have h0 : mget l k = none := by cases hm : mget l k <;> simp_all
    rw [mget_none] at h0
    refine List.nodup_append.2 ⟨nd, by simp, ?_⟩
    intro a ha b hb
    simp at hb
    subst hb
    obtain ⟨p, hp, rfl⟩ := List.mem_map.1 ha
    exact h0 p hp
theorem mem_mput {l : List (κ × β)} {k : κ} {v : β} {p : κ × β} : p ∈ mput l k v ↔ p = (k, v) ∨ (p ∈ l ∧ p.1 ≠ k) := by
  unfold mput
  split
  · rename_i h
    obtain ⟨u, hu⟩ := Option.isSome_iff_exists.1 h
    have hm := mget_some hu
    simp only [List.mem_map]
    constructor
    · rintro ⟨q, hq, rfl⟩
      split
      · exact .inl rfl
      · rename_i h; exact .inr ⟨hq, h⟩
    · rintro (rfl | ⟨h1, h2⟩)
      · exact ⟨(k, u), hm, by simp⟩
      · exact ⟨p, h1, by simp [h2]⟩
  · rename_i h
    have h0 : mget l k = none := by cases hm : mget l k <;> simp_all
    rw [mget_none] at h0
    simp only [List.mem_append, List.mem_singleton]
    constructor
    · rintro (h | rfl)
      · exact .inr ⟨h, h0 p h⟩
      · exact .inl rfl
    · rintro (rfl | ⟨h, _⟩)
      · exact .inr rfl
      · exact .inl h
theorem mget_mput {l : List (κ × β)} (nd : (l.map (·.1)).Nodup) (k k' : κ) (v : β) : mget (mput l k v) k' = if k' = k then some v else mget l k' := by
  split
  · rename_i h; subst h
    exact mget_of_mem (mput_nodup nd _ _) (mem_mput.2 (.inl rfl))
  · rename_i h
    cases h1 : mget l k' with
    | none =>
      rw [mget_none] at h1 ⊢
      intro p hp
      rcases mem_mput.1 hp with rfl | ⟨hp, _⟩
      · exact fun e => h e.symm
      · exact h1 p hp
    | some u => exact mget_of_mem (mput_nodup nd _ _) (mem_mput.2 (.inr ⟨mget_some h1, h⟩))
theorem mput_length (l : List (κ × β)) (k : κ) (v : β) : (mput l k v).length = if (mget l k).isSome then l.length else l.length + 1 := by
  unfold mput; split <;> simp
theorem mdel_length_le (l : List (κ × β)) (k : κ) : (mdel l k).length ≤ l.length := List.length_filter_le _ _
theorem eraseIdx_filter : ∀ {l : List (κ × β)} (nd : (l.map (·.1)).Nodup) {j : Nat} {k : κ} {v : β} (h : l[j]? = some (k, v)), l.eraseIdx j = mdel l k
  | [], _, j, _, _, h => by simp at h
  | a :: r, nd, 0, k, v, h => by
    simp at h
    subst h
    simp at nd
    have : mdel r k = r := List.filter_eq_self.2 (fun p hp => by simp; intro e; exact nd.1 p.2 (by rw [← e]; exact hp))
    show r = mdel ((k, v) :: r) k
    have h2 : mdel ((k, v) :: r) k = mdel r k := by simp [mdel]
    rw [h2, this]
  | a :: r, nd, j + 1, k, v, h => by
    simp at h
    simp at nd
    have ha : a.1 ≠ k := by
      intro e
      have := List.mem_of_getElem? h
      exact nd.1 v (by rw [e]; exact this)
    have ih := eraseIdx_filter (by simpa using nd.2) h
    rw [List.eraseIdx_cons_succ, ih]
    simp [mdel, List.filter_cons, ha]
theorem mdel_length {l : List (κ × β)} (nd : (l.map (·.1)).Nodup) (k : κ) : (mdel l k).length = if (mget l k).isSome then l.length - 1 else l.length := by
  cases h : mget l k with
  | none =>
    rw [mget_none] at h
    have : mdel l k = l := List.filter_eq_self.2 (fun p hp => by simpa using h p hp)
    simp [this]
  | some v =>
    obtain ⟨j, hj⟩ := List.getElem?_of_mem (mget_some h)
    rw [← eraseIdx_filter nd hj, List.length_eraseIdx]
    have := (List.getElem?_eq_some_iff.1 hj).1
    simp [this]
theorem perm_mdel {l : List (κ × β)} (nd : (l.map (·.1)).Nodup) {p : κ × β} (h : p ∈ l) : l.Perm (p :: mdel l p.1) := by
  obtain ⟨j, hj⟩ := List.getElem?_of_mem h
  obtain ⟨k, v⟩ := p
  rw [← eraseIdx_filter nd hj]
  obtain ⟨hlt, he⟩ := List.getElem?_eq_some_iff.1 hj
  have h1 := List.getElem_mem hlt
  have h2 : l.Perm (l[j] :: l.eraseIdx j) := by
    clear he h1 hj h nd
    induction l generalizing j with
    | nil => simp at hlt
    | cons a r ih =>
      cases j with
      | zero => simp
      | succ j =>
        simp at hlt
        have := ih j hlt
        simp
        exact (this.cons a).trans (List.Perm.swap _ _ _)
  rw [he] at h2
  exact h2

theorem filter_map_eq {α γ δ : Type} {f : α → δ} {g : γ → δ} {p : α → Bool} {q : γ → Bool} : ∀ {A : List α} {B : List γ}, A.map f = B.map g → (∀ a ∈ A, ∀ b ∈ B, f a = g b → p a = q b) → (A.filter p).map f = (B.filter q).map g
  | [], B, h, _ => by
    have : B = [] := by cases B with | nil => rfl | cons b r => simp at h
    subst this; rfl
  | a :: r, B, h, hpq => by
    cases B with
    | nil => simp at h
    | cons b s =>
      simp at h
      have ih := filter_map_eq (p := p) (q := q) h.2 (fun a' ha' b' hb' => hpq a' (by simp [ha']) b' (by simp [hb']))
      have e := hpq a (by simp) b (by simp) h.1
      simp only [List.filter_cons, e]
      split
      · simp [h.1, ih]
      · exact ih
theorem mem_pair {α γ δ : Type} {f : α → δ} {g : γ → δ} {A : List α} {B : List γ} (h : A.map f = B.map g) {a : α} (ha : a ∈ A) : ∃ b ∈ B, f a = g b := by
  have : f a ∈ B.map g := h ▸ List.mem_map.2 ⟨a, ha, rfl⟩
  obtain ⟨b, hb, e⟩ := List.mem_map.1 this
  exact ⟨b, hb, e.symm⟩
theorem get_pair {α γ δ : Type} {f : α → δ} {g : γ → δ} {A : List α} {B : List γ} (h : A.map f = B.map g) {j : Nat} {a : α} (ha : A[j]? = some a) : ∃ b, B[j]? = some b ∧ f a = g b := by
  have h1 : (A.map f)[j]? = some (f a) := by simp [ha]
  rw [h] at h1
  simp at h1
  obtain ⟨b, hb, e⟩ := h1
  exact ⟨b, hb, e.symm⟩
theorem erase_keys : ∀ (A : List MapEntry) (j : Nat) (x : MapEntry), A.Pairwise (fun x y => x.key ≠ y.key) → A[j]? = some x → A.eraseIdx j = A.filter (fun y => @decide (y.key ≠ x.key) (Classical.propDecidable _)) := by
  intro A
  induction A with
  | nil => intro j x _ h; simp at h
  | cons a r ih =>
    intro j x hp hj
    obtain ⟨p1, p2⟩ := List.pairwise_cons.1 hp
    cases j with
    | zero =>
      simp at hj
      subst hj
      have h1 : r.filter (fun y => @decide (y.key ≠ a.key) (Classical.propDecidable _)) = r := List.filter_eq_self.2 (fun y hy => by simpa using (p1 y hy).symm)
      simp only [List.eraseIdx_cons_zero, List.filter_cons]
      rw [h1]
      simp
    | succ j =>
      simp at hj
      have ha : a.key ≠ x.key := p1 x (List.mem_of_getElem? hj)
      rw [List.eraseIdx_cons_succ, ih j x p2 hj]
      simp [List.filter_cons, ha]
end plain
section
variable {P : Program} {kt : TypeId} {κ β : Type} [DecidableEq κ] {ok : κ → Prop} {ek : κ → Value} {ev : β → Value}
/-- How keys are spelled. -/
structure KE (P : Program) (kt : TypeId) (ok : κ → Prop) (ek : κ → Value) : Prop where
  keyed : Keyed P kt
  key : ∀ x, ok x → ∃ l, keyOf P kt (ek x) = some l
  inj : ∀ x y, ek x = ek y → x = y

/-- An entry as a pair. -/
def pairE (e : MapEntry) : Value × Value := (e.key, e.val)
def pairV (ek : κ → Value) (ev : β → Value) (p : κ × β) : Value × Value := (ek p.1, ev p.2)

/-- Block b of w is a map; its entries. -/
structure Mp (ok : κ → Prop) (ek : κ → Value) (ev : β → Value) (w : World) (b : Nat) (l : List (κ × β)) : Prop where
  ok : ∀ p ∈ l, ok p.1
  nd : (l.map (·.1)).Nodup
  ex : ∃ es clock, w.heap[b]? = some (.map es clock) ∧ Stamped es clock ∧ es.toList.map pairE = l.map (pairV ek ev)

theorem Mp.lt {w : World} {b : Nat} {l : List (κ × β)} (h : Mp ok ek ev w b l) : b < w.heap.size := by
  obtain ⟨es, c, hb, _⟩ := h.ex
  exact lt_of_heap hb
theorem Mp.of_heap {w w' : World} {b : Nat} {l : List (κ × β)} (h : Mp ok ek ev w b l) (he : w'.heap[b]? = w.heap[b]?) : Mp ok ek ev w' b l := by
  obtain ⟨es, c, hb, h2, h3⟩ := h.ex
  exact ⟨h.ok, h.nd, es, c, he.trans hb, h2, h3⟩
theorem Mp.fr {S : Nat → Prop} {w w' : World} {b : Nat} {l : List (κ × β)} (h : Mp ok ek ev w b l) (hf : Fr S w w') (hs : ¬ S b) : Mp ok ek ev w' b l :=
  h.of_heap (hf.block b h.lt hs)
theorem Mp.no {w w' : World} {b : Nat} {l : List (κ × β)} (h : Mp ok ek ev w b l) (hf : Fr No w w') : Mp ok ek ev w' b l := h.fr hf (fun h => h)
theorem Mp.made (w : World) : Mp ok ek ev (w.alloc (.map #[] 0)) w.heap.size ([] : List (κ × β)) :=
  ⟨by simp, by simp, #[], 0, heap_alloc_new w _, stamped_empty 0, by simp⟩

theorem Mp.keys {es : Array MapEntry} {l : List (κ × β)} (K : KE P kt ok ek) (hok : ∀ p ∈ l, ok p.1) (h : es.toList.map pairE = l.map (pairV ek ev)) : ∀ e ∈ es.toList, ∃ x, keyOf P kt e.key = some x := by
  intro e he
  obtain ⟨p, hp, hpe⟩ := mem_pair h he
  obtain ⟨x, hx⟩ := K.key p.1 (hok p hp)
  refine ⟨x, ?_⟩
  simp only [pairE, pairV, Prod.mk.injEq] at hpe
  rw [hpe.1, hx]

/-- The search. -/
theorem Mp.find {w : World} {es : Array MapEntry} {l : List (κ × β)} (K : KE P kt ok ek) (hok : ∀ p ∈ l, ok p.1) (nd : (l.map (·.1)).Nodup) (h : es.toList.map pairE = l.map (pairV ek ev)) {k : κ} (hk : ok k) :
    (mget l k = none ∧ (Instr.findKey kt (ek k) es.toList).run P w = .ok none w ∧ ∀ e ∈ es.toList, e.key ≠ ek k) ∨
    ∃ j e v, mget l k = some v ∧ (Instr.findKey kt (ek k) es.toList).run P w = .ok (some (j, ev v)) w ∧ es.toList[j]? = some e ∧ e.key = ek k ∧ e.val = ev v ∧ l[j]? = some (k, v) := by
  obtain ⟨lk, hlk⟩ := K.key k hk
  rcases K.keyed.find w hlk es.toList (Mp.keys K hok h) with ⟨h1, h2⟩ | ⟨j, e, h1, h2, h3⟩
  · refine .inl ⟨mget_none.2 (fun p hp e => ?_), h1, h2⟩
    obtain ⟨x, hx, hxe⟩ := mem_pair h.symm hp
    simp only [pairE, pairV, Prod.mk.injEq] at hxe
    exact h2 x hx (by rw [← hxe.1, e])
  · obtain ⟨p, hp, hpe⟩ := get_pair h h2
    simp only [pairE, pairV, Prod.mk.injEq] at hpe
    obtain ⟨a, v⟩ := p
    have ha : a = k := K.inj _ _ (by rw [← hpe.1]; exact h3)
    subst ha
    have hv : e.val = ev v := hpe.2
    refine .inr ⟨j, e, v, mget_of_mem nd (List.mem_of_getElem? hp), by rw [h1, hv], h2, h3, hv, hp⟩

/-- 'm[k]', 'v, ok := m[k]'. -/
theorem Mp.look {w : World} {b : Nat} {l : List (κ × β)} (h : Mp ok ek ev w b l) (K : KE P kt ok ek) {t e : TypeId} (ht : P.underlying t = some (.map kt e)) {z : Value} (hz : ∀ w, (zeroValue e).run P w = .ok z w) {k : κ} (hk : ok k) (c : Bool) :
    (Instr.lookup t (.map (some b)) (ek k) c).run P w = .ok (if c then .tuple #[((mget l k).map ev).getD z, .bool (mget l k).isSome] else ((mget l k).map ev).getD z) w := by
  obtain ⟨es, clock, hb, hst, he⟩ := h.ex
  obtain ⟨lk, hlk⟩ := K.key k hk
  rcases Mp.find (w := w) K h.ok h.nd he hk with ⟨h0, h1, h2⟩ | ⟨j, e0, v, h0, h1, h2, h3, h4, h5⟩
  · rw [h0]
    simp [Instr.lookup, run_underlying ht, MapKept.run_getObj_map hb, K.keyed.check w _ hlk, h1, hz, Result.andThen]
  · rw [h0]
    simp [Instr.lookup, run_underlying ht, MapKept.run_getObj_map hb, K.keyed.check w _ hlk, h1, Result.andThen]

theorem Fr.setBlock {w : World} {b : Nat} (o : Obj) : Fr (Is b) w (ChangeMaps.setBlock w b o) :=
  ⟨rfl, rfl, rfl, by simp [ChangeMaps.setBlock], fun k hk hn => by
    show (w.heap.setIfInBounds b o)[k]? = _
    rw [Array.getElem?_setIfInBounds_ne]
    exact fun e => hn e.symm⟩

/-- 'm[k] = v'. -/
theorem Mp.put {w : World} {b : Nat} {l : List (κ × β)} (h : Mp ok ek ev w b l) (K : KE P kt ok ek) {t e : TypeId} (ht : P.underlying t = some (.map kt e)) {k : κ} (hk : ok k) (v : β) :
    ∃ w', (Instr.mapUpdate t (.map (some b)) (ek k) (ev v)).run P w = .ok () w' ∧ Mp ok ek ev w' b (mput l k v) ∧ Fr (Is b) w w' ∧ w'.heap.size = w.heap.size := by
  obtain ⟨es, clock, hb, hst, he⟩ := h.ex
  obtain ⟨lk, hlk⟩ := K.key k hk
  have hok' : ∀ p ∈ mput l k v, ok p.1 := by
    intro p hp
    rcases mem_mput.1 hp with rfl | ⟨hp, _⟩
    · exact hk
    · exact h.ok p hp
  rcases Mp.find (w := w) K h.ok h.nd he hk with ⟨h0, h1, h2⟩ | ⟨j, e0, u, h0, h1, h2, h3, h4, h5⟩
  · refine ⟨ChangeMaps.setBlock w b (.map (es.push ⟨ek k, ev v, clock⟩) (clock + 1)), ?_, ⟨hok', mput_nodup h.nd k v, _, _, (heap_set hb).1, stamped_push hst h2, ?_⟩, Fr.setBlock _, by simp [ChangeMaps.setBlock]⟩
    · simp [Instr.mapUpdate, run_underlying ht, MapKept.run_getObj_map hb, K.keyed.check w false hlk, h1, MapKept.run_setObj_map _ hb, Result.andThen, ChangeMaps.setBlock]
    · unfold mput
      rw [h0]
      simp [pairE, pairV]
      exact he
  · have hj : es[j]? = some e0 := by simpa using h2
    have hkeyf : ∀ e', es[j]? = some e' → ({ e' with key := ek k, val := ev v } : MapEntry).key = e'.key := fun e' he' => by rw [hj] at he'; cases he'; exact h3.symm
    refine ⟨ChangeMaps.setBlock w b (.map (es.modify j fun e => { e with key := ek k, val := ev v }) clock), ?_, ⟨hok', mput_nodup h.nd k v, _, _, (heap_set hb).1, stamped_modify hst _ _ (fun _ _ => rfl) (fun e' _ he' => hkeyf e' he'), ?_⟩, Fr.setBlock _, by simp [ChangeMaps.setBlock]⟩
    · simp [Instr.mapUpdate, run_underlying ht, MapKept.run_getObj_map hb, K.keyed.check w false hlk, h1, hj, h3, K.keyed.stays w hlk, MapKept.run_setObj_map _ hb, Result.andThen, ChangeMaps.setBlock]
    · rw [Array.toList_modify, modify_eq_set _ _ _ _ h2, List.map_set, he]
      unfold mput
      rw [h0]
      simp only [Option.isSome_some, if_true]
      have hlj := (List.getElem?_eq_some_iff.1 h5).1
      apply List.ext_getElem?
      intro i
      rw [List.getElem?_set, List.map_map, List.getElem?_map]
      split
      · rename_i hij
        subst hij
        rw [List.getElem?_map, h5]
        simp [hlj, pairE, pairV]
      · rename_i hij
        rw [List.getElem?_map]
        cases hi : l[i]? with
        | none => rfl
        | some p =>
          have : p.1 ≠ k := by
            intro ep
            have hi1 : (l.map (·.1))[i]? = some k := by simp [hi, ep]
            have hj1 : (l.map (·.1))[j]? = some k := by simp [h5]
            have hil : i < (l.map (·.1)).length := (List.getElem?_eq_some_iff.1 hi1).1
            exact hij (((List.getElem?_inj hil h.nd).1 (hi1.trans hj1.symm)).symm)
          simp [this]

/-- 'delete(m, k)'. -/
theorem Mp.del {w : World} {b : Nat} {l : List (κ × β)} (h : Mp ok ek ev w b l) (K : KE P kt ok ek) {t e ty : TypeId} (ht : P.underlying t = some (.map kt e)) {k : κ} (hk : ok k) :
    ∃ w', (Builtin.delete_ #[t, kt] ty #[.map (some b), ek k]).run P w = .ok (.tuple #[]) w' ∧ Mp ok ek ev w' b (mdel l k) ∧ Fr (Is b) w w' ∧ w'.heap.size = w.heap.size := by
  obtain ⟨es, clock, hb, hst, he⟩ := h.ex
  obtain ⟨lk, hlk⟩ := K.key k hk
  have hok' : ∀ p ∈ mdel l k, ok p.1 := fun p hp => h.ok p (mem_mdel.1 hp).1
  rcases Mp.find (w := w) K h.ok h.nd he hk with ⟨h0, h1, h2⟩ | ⟨j, e0, u, h0, h1, h2, h3, h4, h5⟩
  · have hself : mdel l k = l := List.filter_eq_self.2 (fun p hp => by simpa using mget_none.1 h0 p hp)
    rw [hself]
    refine ⟨ChangeMaps.setBlock w b (.map es clock), ?_, ⟨h.ok, h.nd, _, _, (heap_set hb).1, hst, he⟩, Fr.setBlock _, by simp [ChangeMaps.setBlock]⟩
    simp [Builtin.delete_, run_underlying ht, MapKept.run_getObj_map hb, K.keyed.check w _ hlk, h1, MapKept.run_setObj_map _ hb, Result.andThen, ChangeMaps.setBlock]
  · have hjl : j < es.toList.length := (List.getElem?_eq_some_iff.1 h2).1
    have hjs : j < es.size := by simpa using hjl
    refine ⟨ChangeMaps.setBlock w b (.map (es.eraseIdxIfInBounds j) clock), ?_, ⟨hok', mdel_nodup h.nd k, _, _, (heap_set hb).1, stamped_erase hst j, ?_⟩, Fr.setBlock _, by simp [ChangeMaps.setBlock]⟩
    · simp [Builtin.delete_, run_underlying ht, MapKept.run_getObj_map hb, K.keyed.check w _ hlk, h1, MapKept.run_setObj_map _ hb, Result.andThen, ChangeMaps.setBlock]
    · have hsub : (es.eraseIdxIfInBounds j).toList = es.toList.eraseIdx j := by
        unfold Array.eraseIdxIfInBounds
        rw [dif_pos hjs]
        simp
      rw [hsub, ChangeMaps.map_eraseIdx, he, ← ChangeMaps.map_eraseIdx, eraseIdx_filter h.nd h5]

/-- 'len(m)'. -/
theorem Mp.size {w : World} {b : Nat} {l : List (κ × β)} (h : Mp ok ek ev w b l) : ∃ es clock, w.heap[b]? = some (.map es clock) ∧ es.size = l.length := by
  obtain ⟨es, clock, hb, hst, he⟩ := h.ex
  refine ⟨es, clock, hb, ?_⟩
  have := congrArg List.length he
  simpa using this

theorem Mp.len {w : World} {b : Nat} {l : List (κ × β)} (h : Mp ok ek ev w b l) {t e : TypeId} (ht : P.underlying t = some (.map kt e)) (ty : TypeId) :
    (Builtin.len_ #[t] ty #[.map (some b)]).run P w = .ok (.int .i64 l.length) w := by
  obtain ⟨es, clock, hb, hs⟩ := h.size
  rw [← hs]
  simp [Builtin.len_, run_underlying ht, MapKept.run_getObj_map hb, Result.andThen, goInt]

/-! ### iteration -/
/-- An iteration (block r) over the map in block b: what is still to come. -/
structure Rg (ok : κ → Prop) (ek : κ → Value) (ev : β → Value) (w : World) (b r : Nat) (l left : List (κ × β)) : Prop where
  ok : ∀ p ∈ l, ok p.1
  nd : (l.map (·.1)).Nodup
  sub : ∀ p ∈ left, p ∈ l
  ndl : (left.map (·.1)).Nodup
  ex : ∃ es clock since seen c0, w.heap[b]? = some (.map es clock) ∧ Stamped es clock ∧ es.toList.map pairE = l.map (pairV ek ev) ∧ w.heap[r]? = some (.mapIter (some b) since seen c0) ∧ (∀ x ∈ es.toList, x.born < since) ∧ since ≤ c0 ∧ since ≤ clock ∧
    (leftOf es seen).toList.map pairE = left.map (pairV ek ev)

variable {w : World} {b r : Nat} {l left : List (κ × β)}
theorem Rg.mp (h : Rg ok ek ev w b r l left) : Mp ok ek ev w b l := by
  obtain ⟨es, c, _, _, _, hb, h2, h3, _⟩ := h.ex
  exact ⟨h.ok, h.nd, es, c, hb, h2, h3⟩
theorem Rg.lt (h : Rg ok ek ev w b r l left) : r < w.heap.size := by
  obtain ⟨es, c, _, _, _, _, _, _, hr, _⟩ := h.ex
  exact lt_of_heap hr
theorem Rg.ne (h : Rg ok ek ev w b r l left) : r ≠ b := by
  obtain ⟨es, c, _, _, _, hb, _, _, hr, _⟩ := h.ex
  intro e
  rw [e, hb] at hr
  cases hr
theorem Rg.of_heap {w' : World} (h : Rg ok ek ev w b r l left) (hb' : w'.heap[b]? = w.heap[b]?) (hr' : w'.heap[r]? = w.heap[r]?) : Rg ok ek ev w' b r l left := by
  obtain ⟨es, c, since, seen, c0, hb, h2, h3, hr, rest⟩ := h.ex
  exact ⟨h.ok, h.nd, h.sub, h.ndl, es, c, since, seen, c0, hb'.trans hb, h2, h3, hr'.trans hr, rest⟩
theorem Rg.fr {S : Nat → Prop} {w' : World} (h : Rg ok ek ev w b r l left) (hf : Fr S w w') (hs : ¬ S b) (hs' : ¬ S r) : Rg ok ek ev w' b r l left :=
  h.of_heap (hf.block b h.mp.lt hs) (hf.block r h.lt hs')
theorem Rg.iter (h : Rg ok ek ev w b r l left) : ∃ o, w.heap[r]? = some o ∧ o.isWalk = true := by
  obtain ⟨es, c, since, seen, c0, hb, h2, h3, hr, rest⟩ := h.ex
  exact ⟨_, hr, rfl⟩

/-- How many are still to come, read off the world: a measure. -/
theorem Rg.left_eq (h : Rg ok ek ev w b r l left) : w.rangeLeft b r = left.length := by
  obtain ⟨es, c, since, seen, c0, hb, h2, h3, hr, _, _, _, h8⟩ := h.ex
  simp only [World.rangeLeft, hb, hr]
  have := congrArg List.length h8
  simpa using this

/-- 'range m'. -/
theorem Mp.range {t e : TypeId} (h : Mp ok ek ev w b l) (ht : P.underlying t = some (.map kt e)) :
    ∃ w', (Instr.range t (.map (some b))).run P w = .ok (.pointer (some ⟨w.heap.size, 0, none⟩)) w' ∧ Rg ok ek ev w' b w.heap.size l l ∧ w.grownBy w' none ∧ w'.heap.size = w.heap.size + 1 := by
  have hlt := h.lt
  obtain ⟨es, clock, hb, hst, he⟩ := h.ex
  refine ⟨_, run_range_map w t kt e b es clock ht hb, ⟨h.ok, h.nd, fun _ h => h, h.nd, es, clock, clock, #[], clock, ((MapKept.heap_alloc w _).2 b hlt).trans hb, hst, he, (MapKept.heap_alloc w _).1, hst.1, Nat.le_refl _, Nat.le_refl _, ?_⟩, World.grownBy_alloc w _ none, by simp⟩
  have e : leftOf es #[] = es := by unfold leftOf; simp
  rw [e]; exact he

/-- The step. -/
theorem Rg.next (h : Rg ok ek ev w b r l left) (K : KE P kt ok ek) (ty : TypeId) :
    (left = [] ∧ (Instr.next (.pointer (some ⟨r, 0, none⟩)) false ty).run P w = .ok (.tuple #[.bool false]) w) ∨
    ∃ p w', p ∈ left ∧ (Instr.next (.pointer (some ⟨r, 0, none⟩)) false ty).run P w = .ok (.tuple #[.bool true, ek p.1, ev p.2]) w' ∧ Rg ok ek ev w' b r l (mdel left p.1) ∧ w.grownBy w' (some r) ∧ w'.heap.size = w.heap.size ∧
      (Instr.entry (.pointer (some ⟨r, 0, none⟩))).run P w' = .ok (.tuple #[ek p.1, ev p.2]) w' := by
  have hne := h.ne
  obtain ⟨es, clock, since, seen, c0, hb, hst, he, hr, hold, hsc, hsk, hleft⟩ := h.ex
  rcases run_next_at (P := P) w ty r b since c0 seen es clock hr hb hold hsc with ⟨h0, hrun⟩ | ⟨x, hx, w1, hal, hrun⟩
  · refine .inl ⟨?_, hrun⟩
    have := congrArg List.length hleft
    simp [h0] at this
    exact List.eq_nil_of_length_eq_zero this.symm
  · obtain ⟨p, hp, hpe⟩ := mem_pair hleft hx
    simp only [pairE, pairV, Prod.mk.injEq] at hpe
    have hxm : x ∈ es.toList := by unfold leftOf at hx; simp at hx ⊢; exact hx.1
    have hr1 : w1.heap[r]? = some (.mapIter (some b) since seen c0) := by rcases hal with rfl | rfl <;> exact hr
    have hb1 : w1.heap[b]? = some (.map es clock) := by rcases hal with rfl | rfl <;> exact hb
    have hset := heap_set (o' := .mapIter (some b) since (seen.push x.born) clock) hr1
    have hb' : (ChangeMaps.setBlock w1 r (.mapIter (some b) since (seen.push x.born) clock)).heap[b]? = some (.map es clock) := (hset.2 b (fun e1 => hne e1.symm)).trans hb1
    refine .inr ⟨p, _, hp, by rw [hrun, hpe.1, hpe.2], ⟨h.ok, h.nd, fun q hq => h.sub q (mem_mdel.1 hq).1, mdel_nodup h.ndl _, es, clock, since, seen.push x.born, clock, hb', hst, he, hset.1, hold, hsk, hsk, ?_⟩, ?_, ?_, ?_⟩
    · have e1 : leftOf es (seen.push x.born) = (leftOf es seen).filter (fun y => decide (y.born ≠ x.born)) := by
        unfold leftOf
        rw [Array.filter_filter]
        congr 1
        funext y
        rw [show (seen.push x.born).contains y.born = (seen.contains y.born || y.born == x.born) from contains_push _ _ _]
        cases seen.contains y.born <;> by_cases hy : y.born = x.born <;> simp [hy]
      rw [e1, Array.toList_filter]
      refine filter_map_eq hleft (fun y hy q hq hyq => ?_)
      simp only [pairE, pairV, Prod.mk.injEq] at hyq
      have hym : y ∈ es.toList := by unfold leftOf at hy; simp at hy ⊢; exact hy.1
      have : (y.born = x.born) ↔ (q.1 = p.1) := by
        constructor
        · intro e
          have hxy := born_inj hst.2.1 hym hxm e
          subst hxy
          exact K.inj _ _ (by rw [← hyq.1, ← hpe.1])
        · intro e
          have hk : y.key = x.key := by rw [hyq.1, hpe.1, e]
          have hp2 : es.toList.Pairwise (fun x y => x.key ≠ y.key) := ((stamped_iff es clock).1 hst).2.2
          rw [entry_eq_of_key hp2 hym hxm hk]
      by_cases hh : y.born = x.born
      · simp [hh, this.1 hh]
      · have hq' : ¬ q.1 = p.1 := fun e => hh (this.2 e)
        simp [hh, hq']
    · rcases hal with rfl | rfl <;> exact ⟨rfl, rfl, rfl, by simp [ChangeMaps.setBlock], fun i _ hi => hset.2 i (fun e1 => hi (by rw [e1]))⟩
    · rcases hal with rfl | rfl <;> simp [ChangeMaps.setBlock]
    · have := run_entry_at (P := P) _ r b since seen es clock x hset.1 hb' hxm ((stamped_iff es clock).1 hst).2.1
      rw [hpe.1, hpe.2] at this
      exact this

/-- 'delete(m, k)' in the round. -/
theorem Rg.drop (h : Rg ok ek ev w b r l left) (K : KE P kt ok ek) {t e : TypeId} (ht : P.underlying t = some (.map kt e)) {k : κ} (hk : ok k) (ty : TypeId) :
    ∃ w', (Builtin.delete_ #[t, kt] ty #[.map (some b), ek k]).run P w = .ok (.tuple #[]) w' ∧ Rg ok ek ev w' b r (mdel l k) (mdel left k) ∧ Fr (Is b) w w' ∧ w'.heap.size = w.heap.size := by
  have hne := h.ne
  obtain ⟨es, clock, since, seen, c0, hb, hst, he, hr, hold, hsc, hsk, hleft⟩ := h.ex
  obtain ⟨lk, hlk⟩ := K.key k hk
  have hok' : ∀ p ∈ mdel l k, ok p.1 := fun p hp => h.ok p (mem_mdel.1 hp).1
  have hsub' : ∀ p ∈ mdel left k, p ∈ mdel l k := fun p hp => mem_mdel.2 ⟨h.sub p (mem_mdel.1 hp).1, (mem_mdel.1 hp).2⟩
  rcases Mp.find (w := w) K h.ok h.nd he hk with ⟨h0, h1, h2⟩ | ⟨j, e0, u, h0, h1, h2, h3, h4, h5⟩
  · have hself : mdel l k = l := List.filter_eq_self.2 (fun p hp => by simpa using mget_none.1 h0 p hp)
    have hself2 : mdel left k = left := List.filter_eq_self.2 (fun p hp => by simpa using mget_none.1 h0 p (h.sub p hp))
    rw [hself, hself2]
    refine ⟨ChangeMaps.setBlock w b (.map es clock), ?_, ⟨h.ok, h.nd, h.sub, h.ndl, _, _, since, seen, c0, (heap_set hb).1, hst, he, ((heap_set hb).2 r hne).trans hr, hold, hsc, hsk, hleft⟩, Fr.setBlock _, by simp [ChangeMaps.setBlock]⟩
    simp [Builtin.delete_, run_underlying ht, MapKept.run_getObj_map hb, K.keyed.check w _ hlk, h1, MapKept.run_setObj_map _ hb, Result.andThen, ChangeMaps.setBlock]
  · have hjl : j < es.toList.length := (List.getElem?_eq_some_iff.1 h2).1
    have hjs : j < es.size := by simpa using hjl
    have hsub : (es.eraseIdxIfInBounds j).toList = es.toList.eraseIdx j := by
      unfold Array.eraseIdxIfInBounds
      rw [dif_pos hjs]
      simp
    have hmap : (es.eraseIdxIfInBounds j).toList.map pairE = (mdel l k).map (pairV ek ev) := by
      rw [hsub, ChangeMaps.map_eraseIdx, he, ← ChangeMaps.map_eraseIdx, eraseIdx_filter h.nd h5]
    refine ⟨ChangeMaps.setBlock w b (.map (es.eraseIdxIfInBounds j) clock), ?_, ⟨hok', mdel_nodup h.nd k, hsub', mdel_nodup h.ndl _, _, _, since, seen, c0, (heap_set hb).1, stamped_erase hst j, hmap, ((heap_set hb).2 r hne).trans hr, ?_, hsc, hsk, ?_⟩, Fr.setBlock _, by simp [ChangeMaps.setBlock]⟩
    · simp [Builtin.delete_, run_underlying ht, MapKept.run_getObj_map hb, K.keyed.check w _ hlk, h1, MapKept.run_setObj_map _ hb, Result.andThen, ChangeMaps.setBlock]
    · intro x hx
      rw [hsub] at hx
      exact hold x ((List.eraseIdx_sublist _ _).subset hx)
    · have hp2 : es.toList.Pairwise (fun x y => x.key ≠ y.key) := ((stamped_iff es clock).1 hst).2.2
      have e1 := erase_keys _ _ _ hp2 h2
      rw [h3] at e1
      have e2 : (leftOf (es.eraseIdxIfInBounds j) seen).toList = (leftOf es seen).toList.filter (fun x => @decide (x.key ≠ ek k) (Classical.propDecidable _)) := by
        unfold leftOf
        rw [Array.toList_filter, Array.toList_filter, hsub, e1, List.filter_filter, List.filter_filter]
        congr 1
        funext y
        exact Bool.and_comm _ _
      rw [e2]
      refine filter_map_eq hleft (fun y hy q hq hyq => ?_)
      simp only [pairE, pairV, Prod.mk.injEq] at hyq
      by_cases hh : q.1 = k
      · simp [hh, hyq.1]
      · have : y.key ≠ ek k := fun e => hh (K.inj _ _ (by rw [← hyq.1, e]))
        simp [hh, this]

/-! ### at the operations -/
variable {ops : Array Oper} {rest : List Oper} {o : Oper} {a : Act} {Q : Exit → Act → World → Prop}
theorem wpList_look_mp (hg : o.guard = none) (m x : Operand) (t : TypeId) (c : Bool) (hop : o.op = Op.lookup t m x c) {e : TypeId} (K : KE P kt ok ek) (ht : P.underlying t = some (.map kt e)) {z : Value} (hz : ∀ w, (zeroValue e).run P w = .ok z w)
    (hm : a.eval m = .map (some b)) (h : Mp ok ek ev w b l) (k : κ) (hk : ok k) (hx : a.eval x = ek k)
    (hK : wpList P ops Q rest (a.put o.dst (if c then .tuple #[((mget l k).map ev).getD z, .bool (mget l k).isSome] else ((mget l k).map ev).getD z)) w) :
    wpList P ops Q (o :: rest) a w := by
  refine wpList_plain hg fun K' hK' => ?_
  have hrun := h.look K ht hz hk c
  unfold Oper.wp
  simp [execOp, hop, hm, hx, hrun, Result.andThen]
  exact hK' _ _ hK
theorem wpList_put_mp (hg : o.guard = none) (m x v : Operand) (t : TypeId) (hop : o.op = Op.mapUpdate t m x v) {e : TypeId} (K : KE P kt ok ek) (ht : P.underlying t = some (.map kt e))
    (hm : a.eval m = .map (some b)) (h : Mp ok ek ev w b l) (k : κ) (hk : ok k) (hx : a.eval x = ek k) (u : β) (hv : a.eval v = ev u)
    (hK : ∀ w', Mp ok ek ev w' b (mput l k u) → Fr (Is b) w w' → w'.heap.size = w.heap.size → wpList P ops Q rest (a.put o.dst undef) w') :
    wpList P ops Q (o :: rest) a w := by
  refine wpList_plain hg fun K' hK' => ?_
  obtain ⟨w', hrun, r1, r2, r3⟩ := h.put K ht hk u
  unfold Oper.wp
  simp [execOp, hop, hm, hx, hv, hrun, Result.andThen]
  exact hK' _ _ (hK w' r1 r2 r3)
theorem wpList_del_mp (hg : o.guard = none) (m x : Operand) (t : TypeId) (hop : o.op = Op.call { callee := Callee.builtin Builtin.delete, args := #[m, x], argTypes := #[t, kt] }) {e : TypeId} (K : KE P kt ok ek) (ht : P.underlying t = some (.map kt e))
    (hm : a.eval m = .map (some b)) (h : Mp ok ek ev w b l) (k : κ) (hk : ok k) (hx : a.eval x = ek k)
    (hK : ∀ w', Mp ok ek ev w' b (mdel l k) → Fr (Is b) w w' → w'.heap.size = w.heap.size → wpList P ops Q rest (a.put o.dst (.tuple #[])) w') :
    wpList P ops Q (o :: rest) a w := by
  refine wpList_plain hg fun K' hK' => ?_
  obtain ⟨w', hrun, r1, r2, r3⟩ := h.del K ht hk (ty := o.type)
  unfold Oper.wp
  simp [execOp, hop, resolve, invoke, builtin, hm, hx, hrun, Result.andThen]
  exact hK' _ _ (hK w' r1 r2 r3)
theorem wpList_range_mp (hg : o.guard = none) (m : Operand) (t : TypeId) (hop : o.op = Op.range t m) {e : TypeId} (ht : P.underlying t = some (.map kt e))
    (hm : a.eval m = .map (some b)) (h : Mp ok ek ev w b l)
    (hK : ∀ w', Rg ok ek ev w' b w.heap.size l l → w.grownBy w' none → w'.heap.size = w.heap.size + 1 → wpList P ops Q rest (a.put o.dst (.pointer (some ⟨w.heap.size, 0, none⟩))) w') :
    wpList P ops Q (o :: rest) a w := by
  refine wpList_plain hg fun K' hK' => ?_
  obtain ⟨w', hrun, r1, r2, r3⟩ := h.range ht
  unfold Oper.wp
  simp [execOp, hop, hm, hrun, Result.andThen]
  exact hK' _ _ (hK w' r1 r2 r3)
theorem wpList_next_mp (hg : o.guard = none) (it : Operand) (hop : o.op = Op.next it false) (K : KE P kt ok ek) (hit : a.eval it = .pointer (some ⟨r, 0, none⟩)) (h : Rg ok ek ev w b r l left)
    (hDone : left = [] → wpList P ops Q rest (a.put o.dst (.tuple #[.bool false])) w)
    (hMore : ∀ p w', p ∈ left → Rg ok ek ev w' b r l (mdel left p.1) → w.grownBy w' (some r) → w'.heap.size = w.heap.size → (Instr.entry (.pointer (some ⟨r, 0, none⟩))).run P w' = .ok (.tuple #[ek p.1, ev p.2]) w' →
      wpList P ops Q rest (a.put o.dst (.tuple #[.bool true, ek p.1, ev p.2])) w') :
    wpList P ops Q (o :: rest) a w := by
  refine wpList_plain hg fun K' hK' => ?_
  unfold Oper.wp
  rcases h.next K o.type with ⟨h0, hrun⟩ | ⟨p, w', hp, hrun, r1, r2, r3, r4⟩
  · simp [execOp, hop, hit, hrun, Result.andThen]
    exact hK' _ _ (hDone h0)
  · simp [execOp, hop, hit, hrun, Result.andThen]
    exact hK' _ _ (hMore p w' hp r1 r2 r3 r4)
theorem wpList_drop_mp (hg : o.guard = none) (m x : Operand) (t : TypeId) (hop : o.op = Op.call { callee := Callee.builtin Builtin.delete, args := #[m, x], argTypes := #[t, kt] }) {e : TypeId} (K : KE P kt ok ek) (ht : P.underlying t = some (.map kt e))
    (hm : a.eval m = .map (some b)) (h : Rg ok ek ev w b r l left) (k : κ) (hk : ok k) (hx : a.eval x = ek k)
    (hK : ∀ w', Rg ok ek ev w' b r (mdel l k) (mdel left k) → Fr (Is b) w w' → w'.heap.size = w.heap.size → wpList P ops Q rest (a.put o.dst (.tuple #[])) w') :
    wpList P ops Q (o :: rest) a w := by
  refine wpList_plain hg fun K' hK' => ?_
  obtain ⟨w', hrun, r1, r2, r3⟩ := h.drop K ht hk o.type
  unfold Oper.wp
  simp [execOp, hop, resolve, invoke, builtin, hm, hx, hrun, Result.andThen]
  exact hK' _ _ (hK w' r1 r2 r3)
/-- The map with the iterator is a frame's growth. -/
theorem Fr.of_gb {S : Nat → Prop} {w w' : World} {row : Option Nat} (hg : w.grownBy w' row) (hr : ∀ k, row = some k → S k) : Fr S w w' := Fr.of_grown hg hr
end
end Go.Proofs.Ythoppkklooomgaa
/- A region that draws its order, whose last operation waits for all others: it may be walked behind the rest (the condition of the held walk is then asked of the rest alone). -/
import Derived.Deep.RegionHeld
namespace Go.Proofs.Ythoppkklooomgaa
open Go
set_option linter.unusedVariables false
set_option linter.unusedSimpArgs false
section
variable {P : Program} {Q : Exit → Act → World → Prop} {md : Region.Mode}
/-- What is to hold ahead of the last operation. -/
def tailPost (P : Program) (last : Oper) (Q : Exit → Act → World → Prop) : Exit → Act → World → Prop
  | .normal, a, w => last.wp P a w (fun a w => Q .normal a w) Q
  | e, a, w => Q e a w

theorem upon_tail {last o : Oper} {a : Act} {next : Act → World → Prop} {r : Result Next} (h : o.upon P a next (tailPost P last Q) r) : o.upon P a next Q r := by
  cases r with
  | ok n w' =>
    cases n
    case enter f args =>
      refine Calls.mono h fun e w'' he => ?_
      cases e <;> exact he
    all_goals exact h
  | halt x w' => cases x <;> exact h

/-- The side conditions, as a Bool: no guards; edges go to earlier operations; the last one waits for all others. -/
def tailOk (md : Region.Mode) (l : List Oper) (last : Oper) : Bool :=
  ((List.range l.length).all fun i => (l[i]?).all fun o => o.guard.isNone && o.after.all fun e => decide (e.on < i)) &&
  last.guard.isNone && (last.after.all fun e => decide (e.on < l.length)) &&
  ((List.range l.length).all fun j => last.after.any fun e => Region.binds md e && (e.on == j || (l[e.on]?).any fun o => o.after.any fun e' => Region.binds md e' && e'.on == j))

theorem wpOp_tail {l : List Oper} {last : Oper} {i : Nat} {o : Oper} (ho : l[i]? = some o) (hg : o.guard = none) {K K' : Act → World → Prop} {a : Act} {w : World} (hK : ∀ a w, K a w → K' a w)
    (h : wpOp P l.toArray (tailPost P last Q) i K a w) : wpOp P (l ++ [last]).toArray Q i K' a w := by
  have hi := (List.getElem?_eq_some_iff.1 ho).1
  have h1 : (l.toArray)[i]? = some o := by simpa using ho
  have h2 : ((l ++ [last]).toArray)[i]? = some o := by simp [List.getElem?_append_left hi, ho]
  have hw : ∀ y, Region.wanted o y = true := fun y => by simp [Region.wanted, hg]
  unfold wpOp at h ⊢
  simp only [h1, hw, if_true] at h
  simp only [h2, hw, if_true]
  rcases h with h | ⟨h3, h4⟩
  · exact .inl (Oper.wp_mono hK (upon_tail h))
  · exact .inr ⟨h3, h4⟩

theorem wpAny_tail {l : List Oper} {last : Oper} (hok : tailOk md l last = true) : ∀ (fuel : Nat) (listed : List Bool) (a : Act) (w : World), listed.length = l.length →
    (∀ (i : Nat) (o : Oper), l[i]? = some o → listed.toArray.getD i false = true → ∀ e ∈ o.after, Region.binds md e = true → listed.toArray.getD e.on false = true) →
    wpAny P md l.toArray (tailPost P last Q) fuel listed.toArray a w → wpAny P md (l ++ [last]).toArray Q (fuel + 1) (listed ++ [false]).toArray a w := by
  unfold tailOk at hok
  simp only [Bool.and_eq_true, List.all_eq_true, List.mem_range] at hok
  obtain ⟨⟨⟨h1, h2⟩, h3⟩, h4⟩ := hok
  have hpre : ∀ (i : Nat) (o : Oper), l[i]? = some o → o.guard = none ∧ ∀ e ∈ o.after, e.on < i := by
    intro i o ho
    have := h1 i (List.getElem?_eq_some_iff.1 ho).1
    rw [ho, Option.all_some, Bool.and_eq_true, Array.all_eq_true_iff_forall_mem] at this
    exact ⟨by simpa using this.1, fun e he => by simpa using this.2 e he⟩
  have hlg : last.guard = none := by simpa using h2
  have hle : ∀ e ∈ last.after, e.on < l.length := by
    rw [Array.all_eq_true_iff_forall_mem] at h3
    exact fun e he => by simpa using h3 e he
  have hla : ∀ j < l.length, ∃ e ∈ last.after, Region.binds md e = true ∧ (e.on = j ∨ ∃ o, l[e.on]? = some o ∧ ∃ e' ∈ o.after, Region.binds md e' = true ∧ e'.on = j) := by
    intro j hj
    have := h4 j hj
    rw [Array.any_eq_true'] at this
    obtain ⟨e, he, hb⟩ := this
    rw [Bool.and_eq_true, Bool.or_eq_true] at hb
    refine ⟨e, he, hb.1, hb.2.imp (fun h => by simpa using h) (fun h => ?_)⟩
    cases ho : l[e.on]? with
    | none => rw [ho] at h; cases h
    | some o =>
      rw [ho, Option.any_some, Array.any_eq_true'] at h
      obtain ⟨e', he', hb'⟩ := h
      rw [Bool.and_eq_true] at hb'
      exact ⟨o, rfl, e', he', hb'.1, by simpa using hb'.2⟩
  clear h1 h2 h3 h4
  have hgd : ∀ (listed : List Bool) j, j < listed.length → ∀ b, (listed ++ [false]).toArray.getD j b = listed.toArray.getD j b := by
    intro listed j hj b
    simp [Array.getD_eq_getD_getElem?, List.getElem?_append_left hj]
  -- which may come up
  have hrd : ∀ (listed : List Bool), listed.length = l.length → ∀ j, j < l.length → (j ∈ Region.ready md (l ++ [last]).toArray (listed ++ [false]).toArray ↔ j ∈ Region.ready md l.toArray listed.toArray) := by
    intro listed hl j hj
    rw [mem_ready, mem_ready, hgd listed j (by omega)]
    have e1 : ((l ++ [last]).toArray)[j]? = l[j]? := by simp [List.getElem?_append_left hj]
    have e2 : (l.toArray)[j]? = l[j]? := by simp
    rw [e1, e2]
    constructor
    · rintro ⟨h0, o, ho, h⟩
      exact ⟨h0, o, ho, fun e he hb => by have := (hpre j o ho).2 e he; rw [← hgd listed e.on (by omega)]; exact h e he hb⟩
    · rintro ⟨h0, o, ho, h⟩
      exact ⟨h0, o, ho, fun e he hb => by have := (hpre j o ho).2 e he; rw [hgd listed e.on (by omega)]; exact h e he hb⟩
  have hnil : ∀ (listed : List Bool), listed.length = l.length → Region.ready md l.toArray listed.toArray = [] → ∀ j, j < l.length → listed.toArray.getD j false = true := by
    intro listed hl hr j
    induction j using Nat.strongRecOn with
    | ind j ih =>
      intro hj
      cases hh : listed.toArray.getD j true with
      | true =>
        have e : listed.toArray.getD j false = listed.toArray.getD j true := by simp [Array.getD_eq_getD_getElem?, List.getElem?_eq_getElem (show j < listed.length by omega)]
        rw [e]; exact hh
      | false =>
        exfalso
        have hm : j ∈ Region.ready md l.toArray listed.toArray := by
          rw [mem_ready]
          refine ⟨hh, l[j], by simp [List.getElem?_eq_getElem hj], fun e he hb => ?_⟩
          have := (hpre j l[j] (List.getElem?_eq_getElem hj)).2 e he
          exact ih e.on this (by omega)
        rw [hr] at hm; cases hm
  have hlast : ∀ (listed : List Bool), listed.length = l.length → (∀ (i : Nat) (o : Oper), l[i]? = some o → listed.toArray.getD i false = true → ∀ e ∈ o.after, Region.binds md e = true → listed.toArray.getD e.on false = true) → (l.length ∈ Region.ready md (l ++ [last]).toArray (listed ++ [false]).toArray ↔ ∀ j, j < l.length → listed.toArray.getD j false = true) := by
    intro listed hl hcl
    rw [mem_ready]
    have e1 : ((l ++ [last]).toArray)[l.length]? = some last := by simp
    rw [e1]
    constructor
    · rintro ⟨-, o, ho, h⟩ j hj
      cases ho
      obtain ⟨e, he, hb, hj2⟩ := hla j hj
      have hel := hle e he
      have h5 := h e he hb
      rw [hgd listed e.on (by omega)] at h5
      rcases hj2 with rfl | ⟨o, ho, e', he', hb', rfl⟩
      · exact h5
      · exact hcl e.on o ho h5 e' he' hb'
    · intro h
      refine ⟨by simp [Array.getD_eq_getD_getElem?, ← hl], last, rfl, fun e he hb => ?_⟩
      have := hle e he
      rw [hgd listed e.on (by omega)]
      exact h _ this
  have hlt : ∀ (listed : Array Bool) j, j ∈ Region.ready md (l ++ [last]).toArray listed → j < l.length ∨ j = l.length := by
    intro listed j hj
    obtain ⟨-, o, ho, -⟩ := mem_ready.1 hj
    have := (Array.getElem?_eq_some_iff.1 ho).1
    simp at this
    omega
  have hfin : ∀ (listed : List Bool) (a : Act) (w : World) (fuel : Nat), listed.length = l.length → (∀ j, j < l.length → listed.toArray.getD j false = true) →
      last.wp P a w (fun a w => Q .normal a w) Q → wpOp P (l ++ [last]).toArray Q l.length (wpAny P md (l ++ [last]).toArray Q fuel ((listed ++ [false]).toArray.setIfInBounds l.length true)) a w := by
    intro listed a w fuel hl hall hq
    have e1 : ((l ++ [last]).toArray)[l.length]? = some last := by simp
    have hw : ∀ y, Region.wanted last y = true := fun y => by simp [Region.wanted, hlg]
    unfold wpOp
    simp only [e1, hw, if_true]
    refine .inl (Oper.wp_mono (fun a w hk => wpAny_done ?_ hk fuel) hq)
    apply List.eq_nil_iff_forall_not_mem.2
    intro i hi
    obtain ⟨h0, -⟩ := mem_ready.1 hi
    rcases hlt _ i hi with h | h
    · have h5 := hall i h
      rw [Array.getD_eq_getD_getElem?] at h0 h5
      simp [Array.getElem?_setIfInBounds, show ¬ l.length = i by omega, List.getElem?_append_left (show i < listed.length by omega), List.getElem?_eq_getElem (show i < listed.length by omega)] at h0 h5
      rw [h5] at h0; cases h0
    · subst h
      rw [Array.getD_eq_getD_getElem?] at h0
      simp [hl] at h0
  intro fuel
  induction fuel with
  | zero =>
    intro listed a w hl hcl h
    obtain ⟨h0, hq⟩ := h
    have hall := hnil listed hl h0
    refine ⟨fun hr => ?_, fun i hi => ?_⟩
    · have := (hlast listed hl hcl).2 hall
      rw [hr] at this; cases this
    · have hin : i = l.length := by
        rcases hlt _ i hi with h | h
        · have := (hrd listed hl i h).1 hi
          rw [h0] at this; cases this
        · exact h
      subst hin
      exact hfin listed a w 0 hl hall hq
  | succ fuel ih =>
    intro listed a w hl hcl h
    refine ⟨fun hr => ?_, fun i hi => ?_⟩
    · cases h0 : Region.ready md l.toArray listed.toArray with
      | nil =>
        have := (hlast listed hl hcl).2 (hnil listed hl h0)
        rw [hr] at this; cases this
      | cons j js =>
        have hj : j ∈ Region.ready md l.toArray listed.toArray := by rw [h0]; simp
        have hjl : j < l.length := by
          obtain ⟨-, o, ho, -⟩ := mem_ready.1 hj
          have := (Array.getElem?_eq_some_iff.1 ho).1
          simpa using this
        have := (hrd listed hl j hjl).2 hj
        rw [hr] at this; cases this
    · rcases hlt _ i hi with hil | rfl
      · have hr := (hrd listed hl i hil).1 hi
        have e : (listed ++ [false]).toArray.setIfInBounds i true = (listed.set i true ++ [false]).toArray := by simp [List.set_append, hl, hil]
        rw [e]
        refine wpOp_tail (List.getElem?_eq_getElem hil) (hpre i _ (List.getElem?_eq_getElem hil)).1 (fun a w hk => ih (listed.set i true) a w (by simpa using hl) ?_ (by simpa using hk)) (h.2 i hr)
        intro i' o' ho' h5 e' he' hb'
        have hi' := (List.getElem?_eq_some_iff.1 ho').1
        have he3 := (hpre i' o' ho').2 e' he'
        have hs1 : ∀ j, listed.toArray.getD j false = true → (listed.set i true).toArray.getD j false = true := by
          intro j hj
          rw [Array.getD_eq_getD_getElem?, List.getElem?_toArray] at hj ⊢
          rw [List.getElem?_set]
          split
          · split
            · rfl
            · rename_i h1 h2; subst h1; exact absurd (by omega) h2
          · exact hj
        have hs2 : ∀ j, (listed.set i true).toArray.getD j false = true → j = i ∨ listed.toArray.getD j false = true := by
          intro j hj
          by_cases hji : j = i
          · exact .inl hji
          · rw [Array.getD_eq_getD_getElem?, List.getElem?_toArray, List.getElem?_set, if_neg (by omega)] at hj
            rw [Array.getD_eq_getD_getElem?, List.getElem?_toArray]
            exact .inr hj
        apply hs1
        rcases hs2 i' h5 with rfl | h5
        · obtain ⟨-, o2, ho2, h6⟩ := mem_ready.1 hr
          have : o2 = o' := by
            have e3 : (l.toArray)[i']? = l[i']? := by simp
            rw [e3, ho'] at ho2
            exact (Option.some.inj ho2).symm
          subst this
          exact h6 e' he' hb'
        · exact hcl i' o' ho' h5 e' he' hb'
      · have hall := (hlast listed hl hcl).1 hi
        refine hfin listed a w _ hl hall (h.1 ?_)
        apply List.eq_nil_iff_forall_not_mem.2
        intro j hj
        obtain ⟨h0, o, ho, -⟩ := mem_ready.1 hj
        have hjl := (Array.getElem?_eq_some_iff.1 ho).1
        have h5 := hall j (by simpa using hjl)
        rw [Array.getD_eq_getD_getElem?] at h0 h5
        simp [List.getElem?_eq_getElem (show j < listed.length by simp at hjl; omega)] at h0 h5
        rw [h5] at h0; cases h0
/-- The region: walked without its last operation; then the last one. -/
theorem wp_region_tail {xs : List Oper} {last : Oper} {S : World → Prop} {id : Nat} {a : Act} {w : World} (ho : xs.getLast? = some last) (hm : P.follows .mixedOrders = true) (hok : tailOk .any xs.dropLast last = true) (hS : S w.drew)
    (h : S w.drew → wpAnyH P .any xs.dropLast.toArray (tailPost P last Q) S xs.dropLast.length (List.replicate xs.dropLast.length false).toArray a w.drew) : (Code.region id xs.toArray true).wp P Q a w := by
  obtain ⟨l, hl⟩ : ∃ l, xs.dropLast = l := ⟨_, rfl⟩
  rw [hl] at hok h
  have hx : xs = l ++ [last] := by
    obtain ⟨ys, rfl⟩ := List.getLast?_eq_some_iff.1 ho
    rw [List.dropLast_concat] at hl
    rw [hl]
  subst hx
  refine wp_region_any hm ?_
  have := wpAny_tail (Q := Q) hok l.length (List.replicate l.length false) a w.drew (by simp) (by
    intro i o ho h5
    exfalso
    rw [Array.getD_eq_getD_getElem?, List.getElem?_toArray, List.getElem?_replicate] at h5
    split at h5 <;> cases h5) (wpAny_of_held _ _ _ _ (h hS))
  have e1 : (l ++ [last]).toArray.size = l.length + 1 := by simp
  have e2 : Array.replicate (l.length + 1) false = (List.replicate l.length false ++ [false]).toArray := by
    rw [← List.replicate_succ', List.toArray_replicate]
  rw [e1, e2]
  exact this
end
end Go.Proofs.Ythoppkklooomgaa
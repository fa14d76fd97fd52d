/- routes: the program's table and the reference's row say the same. -/
import Derived.Test.YtapiaaffnhmmiaaRt12
import Derived.Test.YtapiaaffnhmmiaaRtPlain
namespace Go.Proofs.Ytapiaaffnhmmiaa
open Go.RowKit
set_option linter.unusedVariables false
set_option linter.unusedSimpArgs false

/-- The row that List tells, in its order. -/
structure TR (l : RL) (rs : List Rt) : Prop where
  mem : ∀ r, r ∈ rs ↔ mget l (r.dst, r.bits) = some r
  ord : rs.Pairwise (fun x y => ltR x y = true)
theorem TR.nil : TR [] [] := ⟨fun r => by simp [mget], by simp⟩
theorem ltR_iff (x y : Rt) : ltR x y = true ↔ x.dst < y.dst ∨ (x.dst = y.dst ∧ x.bits < y.bits) := by simp [ltR]
theorem TR.nodup {l : RL} {rs : List Rt} (h : TR l rs) : rs.Nodup := by
  rw [List.nodup_iff_pairwise_ne]
  refine h.ord.imp fun {x y} hxy e => ?_
  subst e
  rw [ltR_iff] at hxy
  omega
theorem TR.one {l : RL} {rs : List Rt} (h : TR l rs) {x y : Rt} (hx : x ∈ rs) (hy : y ∈ rs) (hd : x.dst = y.dst) (hb : x.bits = y.bits) : x = y := by
  have h1 := (h.mem x).1 hx
  have h2 := (h.mem y).1 hy
  rw [hd, hb] at h1
  exact Option.some.inj (h1.symm.trans h2)
theorem TR.perm {l : RL} {rs : List Rt} (h : TR l rs) (g : Good l) : rs.Perm (l.map (·.2)) := by
  rw [List.perm_ext_iff_of_nodup h.nodup g.ndvals]
  intro r
  rw [h.mem]
  exact ⟨fun hr => (g.get hr).2, fun hr => g.mem hr⟩
theorem TR.len {l : RL} {rs : List Rt} (h : TR l rs) (g : Good l) : rs.length = l.length := by rw [(h.perm g).length_eq]; simp
theorem TR.none {l : RL} {rs : List Rt} (h : TR l rs) (g : Good l) {d b : Int} (hn : ∀ y ∈ rs, ¬ (y.dst = d ∧ y.bits = b)) : mget l (d, b) = none := by
  cases hg : mget l (d, b) with
  | none => rfl
  | some y =>
    obtain ⟨hk, hm⟩ := g.get hg
    simp only [Prod.mk.injEq] at hk
    have := g.mem hm
    exact absurd ⟨hk.1.symm, hk.2.symm⟩ (hn y ((h.mem y).2 this))
theorem set_mem {rs : List Rt} {i : Nat} {y r x : Rt} (hy : rs[i]? = some y) (hone : ∀ z ∈ rs, ∀ j, rs[j]? = some z → z.dst = y.dst → z.bits = y.bits → j = i) (hd : y.dst = r.dst) (hb : y.bits = r.bits) :
    x ∈ rs.set i r ↔ x = r ∨ (x ∈ rs ∧ ¬ (x.dst = r.dst ∧ x.bits = r.bits)) := by
  have hi := (List.getElem?_eq_some_iff.1 hy).1
  constructor
  · intro h
    obtain ⟨j, hj⟩ := List.mem_iff_getElem?.1 h
    rw [List.getElem?_set] at hj
    split at hj
    · cases hj; exact .inl rfl
    · rename_i hij
      have hm := List.mem_of_getElem? hj
      exact .inr ⟨hm, fun hh => hij (hone x hm j hj (hh.1.trans hd.symm) (hh.2.trans hb.symm)).symm⟩
  · rintro (rfl | ⟨h1, h2⟩)
    · exact List.mem_iff_getElem?.2 ⟨i, by rw [List.getElem?_set, if_pos rfl, if_pos hi]⟩
    · obtain ⟨j, hj⟩ := List.mem_iff_getElem?.1 h1
      refine List.mem_iff_getElem?.2 ⟨j, ?_⟩
      rw [List.getElem?_set, if_neg, hj]
      intro e
      subst e
      rw [hy] at hj; cases hj
      exact h2 ⟨hd, hb⟩
theorem TR.idx {l : RL} {rs : List Rt} (h : TR l rs) {i : Nat} {y : Rt} (hy : rs[i]? = some y) : ∀ z ∈ rs, ∀ j, rs[j]? = some z → z.dst = y.dst → z.bits = y.bits → j = i := by
  intro z hz j hj hd hb
  obtain ⟨h1, e1⟩ := List.getElem?_eq_some_iff.1 hy
  obtain ⟨h2, e2⟩ := List.getElem?_eq_some_iff.1 hj
  have hp := List.pairwise_iff_getElem.1 h.ord
  rcases Nat.lt_trichotomy i j with hij | hij | hij
  · have := hp i j h1 h2 hij
    rw [e1, e2, ltR_iff] at this; omega
  · exact hij.symm
  · have := hp j i h2 h1 hij
    rw [e1, e2, ltR_iff] at this; omega
theorem TR.set {l : RL} {rs : List Rt} (h : TR l rs) (g : Good l) {i : Nat} {y r : Rt} (hy : rs[i]? = some y) (hd : y.dst = r.dst) (hb : y.bits = r.bits) : TR (mput l (r.dst, r.bits) r) (rs.set i r) := by
  constructor
  · intro x
    rw [set_mem hy (h.idx hy) hd hb, mget_mput g.nd, h.mem]
    split
    · rename_i he
      simp only [Prod.mk.injEq] at he
      constructor
      · rintro (rfl | ⟨_, h2⟩)
        · rfl
        · exact absurd he h2
      · intro h2; exact .inl (Option.some.inj h2).symm
    · rename_i he
      simp only [Prod.mk.injEq] at he
      constructor
      · rintro (rfl | ⟨h1, _⟩)
        · exact absurd ⟨rfl, rfl⟩ he
        · exact h1
      · intro h1; exact .inr ⟨h1, he⟩
  · have hi := (List.getElem?_eq_some_iff.1 hy).1
    have hyy := (List.getElem?_eq_some_iff.1 hy).2
    rw [List.pairwise_iff_getElem]
    intro p q hp hq hpq
    have hp' : p < rs.length := by simpa using hp
    have hq' : q < rs.length := by simpa using hq
    have h1 := List.pairwise_iff_getElem.1 h.ord p q hp' hq' hpq
    rw [List.getElem_set, List.getElem_set]
    split
    · rename_i e; subst e
      rw [if_neg (by omega)]
      rw [hyy] at h1
      rw [ltR_iff] at h1 ⊢
      rw [← hd, ← hb]; exact h1
    · split
      · rename_i e; subst e
        rw [hyy] at h1
        rw [ltR_iff] at h1 ⊢
        rw [← hd, ← hb]; exact h1
      · exact h1
theorem TR.ins {l : RL} {rs : List Rt} (h : TR l rs) (g : Good l) {r : Rt} (hn : ∀ y ∈ rs, ¬ (y.dst = r.dst ∧ y.bits = r.bits)) {k : Nat} (h1 : ∀ x ∈ rs.take k, ltR x r = true) (h2 : ∀ y, rs[k]? = some y → ltR y r = false) :
    TR (mput l (r.dst, r.bits) r) (rs.take k ++ r :: rs.drop k) := by
  have hmm : ∀ x, x ∈ rs.take k ++ r :: rs.drop k ↔ x = r ∨ x ∈ rs := by
    intro x
    have e : x ∈ rs ↔ x ∈ rs.take k ∨ x ∈ rs.drop k := by rw [← List.mem_append, List.take_append_drop]
    rw [e, List.mem_append, List.mem_cons]
    constructor
    · rintro (h | h | h)
      · exact .inr (.inl h)
      · exact .inl h
      · exact .inr (.inr h)
    · rintro (h | h | h)
      · exact .inr (.inl h)
      · exact .inl h
      · exact .inr (.inr h)
  constructor
  · intro x
    rw [hmm, mget_mput g.nd, h.mem]
    split
    · rename_i he
      simp only [Prod.mk.injEq] at he
      constructor
      · rintro (rfl | h2)
        · rfl
        · exact absurd he (hn x ((h.mem x).2 h2))
      · intro h2; exact .inl (Option.some.inj h2).symm
    · rename_i he
      simp only [Prod.mk.injEq] at he
      constructor
      · rintro (rfl | h1)
        · exact absurd ⟨rfl, rfl⟩ he
        · exact h1
      · intro h1; exact .inr h1
  · have hrd : ∀ y ∈ rs.drop k, ltR r y = true := by
      intro y hy
      cases hk : rs[k]? with
      | none => rw [List.drop_of_length_le (by simpa using hk)] at hy; cases hy
      | some z =>
        obtain ⟨hkl, hz⟩ := List.getElem?_eq_some_iff.1 hk
        have h3 := h2 z hk
        have hzn := hn z (List.mem_of_getElem? hk)
        have h4 : ltR r z = true := by
          rw [ltR_iff]
          have : ¬ ltR z r = true := by rw [h3]; simp
          rw [ltR_iff] at this
          omega
        rw [List.drop_eq_getElem_cons hkl, hz] at hy
        rcases List.mem_cons.1 hy with rfl | hy
        · exact h4
        · have hp := h.ord
          have : (rs.drop k).Pairwise (fun x y => ltR x y = true) := hp.sublist (List.drop_sublist _ _)
          rw [List.drop_eq_getElem_cons hkl, hz] at this
          have h5 := (List.pairwise_cons.1 this).1 y hy
          rw [ltR_iff] at h4 h5 ⊢
          omega
    rw [List.pairwise_append]
    refine ⟨h.ord.sublist (List.take_sublist _ _), List.pairwise_cons.2 ⟨hrd, h.ord.sublist (List.drop_sublist _ _)⟩, ?_⟩
    intro a ha b hb
    rcases List.mem_cons.1 hb with rfl | hb
    · exact h1 a ha
    · have h3 := h1 a ha
      have h4 := hrd b hb
      rw [ltR_iff] at h3 h4 ⊢
      omega
theorem TR.add {l : RL} {rs rs' : List Rt} {r : Rt} {c : Int} (h : TR l rs) (g : Good l) (ha : AddR rs r c rs') : addCode l r = c ∧ TR (addTo l r) rs' := by
  have hinv : ∀ {r : Rt}, valid8 r → ¬ (r.bits < 0 ∨ 32 < r.bits ∨ cutN r.dst r.bits ≠ r.dst) := by
    intro r hv hh
    obtain ⟨⟨h1, h2⟩, h3⟩ := hv
    rcases hh with hh | hh | hh
    · omega
    · omega
    · exact hh h3
  rcases ha with ⟨hv, rfl, rfl⟩ | ⟨hv, ⟨i, y, hy, hd, hb, rfl⟩, rfl⟩ | ⟨hv, hn, hl, rfl, rfl⟩ | ⟨hv, hn, hl, rfl, k, hk, rfl, h1, h2⟩
  · have e : addCode l r = 1 := by
      unfold addCode
      rw [if_pos]
      apply Classical.byContradiction
      intro hh
      refine hv ⟨⟨by omega, by omega⟩, ?_⟩
      exact Classical.byContradiction fun h3 => hh (.inr (.inr h3))
    refine ⟨e, ?_⟩
    unfold addTo; rw [e, if_neg (by decide)]; exact h
  · have hg := (h.mem y).1 (List.mem_of_getElem? hy)
    rw [hd, hb] at hg
    have e : addCode l r = 0 := by
      unfold addCode
      rw [if_neg (hinv hv), if_neg]
      rintro ⟨h1, -⟩; rw [hg] at h1; cases h1
    refine ⟨e, ?_⟩
    unfold addTo; rw [if_pos e]; exact h.set g hy hd hb
  · have hg := h.none g hn
    have e : addCode l r = 5 := by
      unfold addCode
      rw [if_neg (hinv hv), if_pos ⟨by rw [hg]; rfl, by rw [← h.len g]; exact hl⟩]
    refine ⟨e, ?_⟩
    unfold addTo; rw [e, if_neg (by decide)]; exact h
  · have e : addCode l r = 0 := by
      unfold addCode
      rw [if_neg (hinv hv), if_neg]
      rintro ⟨-, h3⟩; rw [← h.len g] at h3; omega
    refine ⟨e, ?_⟩
    unfold addTo; rw [if_pos e]; exact h.ins g hn h1 h2
theorem TR.del {l : RL} {rs rs' : List Rt} {d b c : Int} (h : TR l rs) (g : Good l) (ha : DelR rs d b c rs') : delCode l (d, b) = c ∧ TR (mdel l (d, b)) rs' := by
  rcases ha with ⟨hn, rfl, rfl⟩ | ⟨i, y, hy, hd, hb, rfl, rfl⟩
  · have hg := h.none g hn
    refine ⟨by unfold delCode; rw [if_pos hg], fun x => ?_, h.ord⟩
    rw [mget_mdel g.nd, h.mem]
    split
    · rename_i he
      rw [he, hg]
    · exact Iff.rfl
  · have hg := (h.mem y).1 (List.mem_of_getElem? hy)
    rw [hd, hb] at hg
    have hi := (List.getElem?_eq_some_iff.1 hy).1
    have hyy := (List.getElem?_eq_some_iff.1 hy).2
    refine ⟨by unfold delCode; rw [if_neg (by rw [hg]; simp)], fun x => ?_, ?_⟩
    · rw [mget_mdel g.nd, ← List.eraseIdx_eq_take_drop_succ, List.mem_eraseIdx_iff_getElem?]
      constructor
      · rintro ⟨j, hji, hj⟩
        have hx := (h.mem x).1 (List.mem_of_getElem? hj)
        rw [if_neg]
        · exact hx
        · intro e
          simp only [Prod.mk.injEq] at e
          exact hji (h.idx hy x (List.mem_of_getElem? hj) j hj (e.1.trans hd.symm) (e.2.trans hb.symm))
      · intro hx
        split at hx
        · cases hx
        · rename_i he
          obtain ⟨j, hj⟩ := List.mem_iff_getElem?.1 ((h.mem x).2 hx)
          refine ⟨j, fun e => he ?_, hj⟩
          subst e
          rw [hy] at hj; cases hj
          rw [hd, hb]
    · rw [← List.eraseIdx_eq_take_drop_succ]
      exact h.ord.sublist (List.eraseIdx_sublist _ _)
/-- What the reference finds. -/
theorem best8_spec (ip : Int) (rs : List Rt) : (∀ r, best8 ip rs = some r → r ∈ rs ∧ cov ip r ∧ ∀ r' ∈ rs, cov ip r' → r'.bits ≤ r.bits) ∧ (best8 ip rs = none → ∀ r' ∈ rs, ¬ cov ip r') := by
  rw [← List.reverse_reverse rs]
  induction rs.reverse with
  | nil => exact ⟨fun r h => by simp [best8] at h, fun _ r' h => by cases h⟩
  | cons x l ih =>
    rw [List.reverse_cons, best8_snoc]
    generalize l.reverse = rs at ih ⊢
    obtain ⟨ih1, ih2⟩ := ih
    unfold step8
    constructor
    · intro r h
      split at h
      · rename_i hc
        cases h
        refine ⟨by simp, hc.1, fun r' hr' hcv => ?_⟩
        rcases List.mem_append.1 hr' with hr' | hr'
        · rcases hc.2 with hn | hlt
          · exact absurd hcv (ih2 (by cases hb : best8 ip rs with | none => rfl | some z => rw [hb] at hn; cases hn) r' hr')
          · cases hb : best8 ip rs with
            | none => exact absurd hcv (ih2 hb r' hr')
            | some z =>
              rw [hb] at hlt
              have := (ih1 z hb).2.2 r' hr' hcv
              simp at hlt
              omega
        · rw [List.mem_singleton] at hr'; subst hr'; exact Int.le_refl _
      · rename_i hc
        obtain ⟨h1, h2, h3⟩ := ih1 r h
        refine ⟨by simp [h1], h2, fun r' hr' hcv => ?_⟩
        rcases List.mem_append.1 hr' with hr' | hr'
        · exact h3 r' hr' hcv
        · rw [List.mem_singleton] at hr'; subst hr'
          rw [h] at hc
          have : ¬ (r.bits < r'.bits) := fun hh => hc ⟨hcv, .inr (by simpa using hh)⟩
          omega
    · intro h r' hr'
      split at h
      · cases h
      · rename_i hc
        rcases List.mem_append.1 hr' with hr' | hr'
        · exact ih2 h r' hr'
        · rw [List.mem_singleton] at hr'; subst hr'
          intro hcv
          exact hc ⟨hcv, .inl (by rw [h]; rfl)⟩
theorem TR.find {l : RL} {rs : List Rt} (h : TR l rs) (g : Good l) (ip : Int) : best8 ip rs = findN l ip 33 := by
  obtain ⟨h1, h2⟩ := best8_spec ip rs
  have hm : ∀ r, r ∈ l.map (·.2) ↔ r ∈ rs := fun r => (h.perm g).mem_iff.symm
  cases hb : best8 ip rs with
  | none =>
    symm
    rw [g.find_none]
    intro r' hr'
    exact h2 hb r' ((hm r').1 hr')
  | some r =>
    symm
    rw [g.find_some]
    obtain ⟨k1, k2, k3⟩ := h1 r hb
    exact ⟨(hm r).2 k1, k2, fun r' hr' hc => k3 r' ((hm r').1 hr') hc⟩
theorem TR.list {l : RL} {rs ys : List Rt} (h : TR l rs) (g : Good l) (hp : ys.Perm (l.map (·.2))) (hs : ys.Pairwise (fun x y => ltR y x = false)) : ys = rs := by
  have hp2 : ys.Perm rs := hp.trans (h.perm g).symm
  refine sorted_one hp2 ?_ hs (h.ord.imp fun {x y} hxy => ?_)
  · rw [(hp2.map _).nodup_iff, List.nodup_iff_pairwise_ne, List.pairwise_map]
    refine h.ord.imp fun {x y} hxy e => ?_
    simp only [Prod.mk.injEq] at e
    rw [ltR_iff] at hxy; omega
  · rw [ltR_iff] at hxy
    cases hh : ltR y x with
    | false => rfl
    | true => rw [ltR_iff] at hh; omega
end Go.Proofs.Ytapiaaffnhmmiaa

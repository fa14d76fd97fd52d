/- tunnel: an entry turns. -/
import Derived.Test.YthoppkklooomgaaTnB
namespace Go.Proofs.Ythoppkklooomgaa
open Go.RowKit
set_option linter.unusedVariables false
set_option linter.unusedSimpArgs false
theorem nodup_inj {α : Type} {l : List α} (h : l.Nodup) {i j : Nat} (hi : i < l.length) (hj : j < l.length) (e : l[i] = l[j]) : i = j := by
  have hp := List.pairwise_iff_getElem.1 h
  rcases Nat.lt_trichotomy i j with h1 | h1 | h1
  · exact absurd e (hp i j hi hj h1)
  · exact h1
  · exact absurd e.symm (hp j i hj hi h1)
theorem mput_map {α β γ : Type} [DecidableEq α] (f : β → γ) (l : List (α × β)) (k : α) (v : β) : mput (l.map fun p => (p.1, f p.2)) k (f v) = (mput l k v).map fun p => (p.1, f p.2) := by
  unfold mput
  rw [mget_map]
  cases mget l k with
  | none => simp
  | some x =>
    simp only [Option.map_some, Option.isSome_some, if_true, List.map_map]
    apply List.map_congr_left
    intro p _
    simp only [Function.comp]
    by_cases h : p.1 = k <;> simp [h]
theorem mput_same {α β : Type} [DecidableEq α] {l : List (α × β)} (nd : (l.map (·.1)).Nodup) {k : α} {v : β} (h : mget l k = some v) : mput l k v = l := by
  unfold mput
  rw [h]
  simp only [Option.isSome_some, if_true]
  rw [List.map_congr_left (g := id), List.map_id]
  intro p hp
  by_cases hk : p.1 = k
  · have h1 := mget_of_mem nd (k := p.1) (v := p.2) hp
    rw [hk, h] at h1
    rw [if_pos hk, Option.some.inj h1, ← hk]; rfl
  · rw [if_neg hk]; rfl
theorem TA.Ok.set {A : TA} (h : A.Ok) {n : Int} {e e' : TE} (hg : mget A.l n = some e) (ht : e'.t = e.t) (hok : e'.ok) : (A.set n e').Ok := by
  have hin := mget_some hg
  have hm : ∀ p, p ∈ mput A.l n e' → p = (n, e') ∨ (p ∈ A.l ∧ p.1 ≠ n) := fun p hp => mem_mput.1 hp
  refine ⟨mput_nodup h.nd n e', ?_, ?_, ?_, ?_, ?_⟩
  · intro p hp
    rcases hm p hp with rfl | ⟨h1, -⟩
    · exact h.key (n, e) hin
    · exact h.key p h1
  · intro p hp
    rcases hm p hp with rfl | ⟨h1, -⟩
    · exact hok
    · exact h.ok p h1
  · intro p hp
    rcases hm p hp with rfl | ⟨h1, -⟩
    · show RightT e'.t
      rw [ht]; exact h.right _ hin
    · exact h.right p h1
  · intro p hp q hq hs
    rcases hm p hp with rfl | ⟨h1, hn1⟩
    · rcases hm q hq with rfl | ⟨h2, hn2⟩
      · rfl
      · have hs' : same4 e.t q.2.t = true := by rw [← ht]; exact hs
        have := h.one _ hin q h2 hs'
        exact absurd (by rw [← this]) hn2
    · rcases hm q hq with rfl | ⟨h2, hn2⟩
      · have hs' : same4 p.2.t e.t = true := by rw [← ht]; exact hs
        have := h.one p h1 _ hin hs'
        exact absurd (by rw [this]) hn1
      · exact h.one p h1 q h2 hs
  · show (mput A.l n e').length ≤ 64
    rw [mput_length, hg]
    exact h.len
/-- The table behind an entry that turned. -/
theorem TbAt.upd {S S' : Nat → Prop} {w w' : World} {tb mb : Nat} {L : TM} {A : TA} (h : TbAt S w tb mb L A) {n : Int} {b : Nat} {e e' : TE} (hin : (n, b, e) ∈ L) (ht : e'.t = e.t) (hok : e'.ok) (hf : Fr (Is b) w w') {m : EnM} (he : EnAt' S' w' b e' m)
    (hS : ∀ k, S k → S' k) (hS' : ∀ k, S' k → k < w'.heap.size) : TbAt S' w' tb mb (mput L n (b, e')) (A.set n e') := by
  have hgL : mget L n = some (b, e) := mget_of_mem h.nd hin
  have hgA : mget A.l n = some e := by rw [h.ab, mget_ab, hgL]; rfl
  obtain ⟨m0, hm0⟩ := h.ent _ hin
  have hbT : ∀ cs t f, w.heap[b]? = some (.cells cs t f) → t = 78 := by
    intro cs t f hc
    have := hm0.box
    simp only at this
    rw [this] at hc; cases hc; rfl
  have hU : TbOnly w (Is b) := by
    rintro k rfl cs t f hc
    exact .inl (hbT cs t f hc)
  have t10 : 78 ≠ 69 := opt_types.2.2.2.2.2.2.2.2.2
  have hbt : b ≠ tb := by
    intro e1
    have := hbT _ _ _ (by rw [e1]; exact h.box)
    exact t10 this.symm
  have hbm : b ≠ mb := by
    intro e1
    obtain ⟨es, c, hm, -⟩ := h.mp.ex
    have := hm0.box
    simp only at this
    rw [e1, hm] at this; cases this
  refine ⟨hf.heap h.box (fun h => hbt h.symm), ?_, ?_, ?_, ?_, h.ok.set hgA ht hok, hS _ h.tS, hS _ h.mS, hS'⟩
  · have e1 : (mput L n (b, e')).map prT = L.map prT := by
      have := mput_map (fun x : Nat × TE => x.1) L n (b, e')
      rw [show (mput L n (b, e')).map prT = (mput L n (b, e')).map (fun p => (p.1, (fun x : Nat × TE => x.1) p.2)) from rfl, ← this]
      refine mput_same (by rw [List.map_map]; exact h.nd) ?_
      show mget (L.map prT) n = some b
      rw [mget_pr, hgL]; rfl
    rw [e1]
    exact h.mp.fr hf (fun h => hbm h.symm)
  · show mput A.l n e' = _
    rw [h.ab]
    exact mput_map (fun x : Nat × TE => x.2) L n (b, e')
  · intro p hp
    rcases mem_mput.1 hp with rfl | ⟨h1, h2⟩
    · exact ⟨m, he⟩
    · obtain ⟨m1, hm1⟩ := h.ent p h1
      refine ⟨m1, (hm1.beside hf hU (fun hb => h2 ?_)).mono hS⟩
      have hb' : p.2.1 = b := hb
      have hnd := h.dis
      obtain ⟨i, hi⟩ := List.getElem?_of_mem h1
      obtain ⟨j, hj⟩ := List.getElem?_of_mem hin
      have hi' : (L.map (·.2.1))[i]? = some b := by rw [List.getElem?_map, hi]; exact congrArg some hb'
      have hj' : (L.map (·.2.1))[j]? = some b := by rw [List.getElem?_map, hj]; rfl
      have hij : i = j := by
        have hil := (List.getElem?_eq_some_iff.1 hi').1
        have hjl := (List.getElem?_eq_some_iff.1 hj').1
        have e1 := (List.getElem?_eq_some_iff.1 hi').2
        have e2 := (List.getElem?_eq_some_iff.1 hj').2
        exact nodup_inj hnd hil hjl (e1.trans e2.symm)
      subst hij
      rw [hi] at hj
      rw [Option.some.inj hj]
  · have e1 : (mput L n (b, e')).map (·.2.1) = L.map (·.2.1) := by
      have := mput_map (fun x : Nat × TE => x.1) L n (b, e')
      have e2 : (mput L n (b, e')).map prT = L.map prT := by
        rw [show (mput L n (b, e')).map prT = (mput L n (b, e')).map (fun p => (p.1, (fun x : Nat × TE => x.1) p.2)) from rfl, ← this]
        refine mput_same (by rw [List.map_map]; exact h.nd) ?_
        show mget (L.map prT) n = some b
        rw [mget_pr, hgL]; rfl
      have := congrArg (List.map (·.2)) e2
      rw [List.map_map, List.map_map] at this
      exact this
    rw [e1]; exact h.dis
end Go.Proofs.Ythoppkklooomgaa
/- bridge laws: a port that is bound anew. -/
import Derived.Test.YticebdoiahadoaaBl7
namespace Go.Proofs.Yticebdoiahadoaa
open Go.RowKit
set_option linter.unusedVariables false
set_option linter.unusedSimpArgs false

/-- No entry is at a port. -/
def Clean (Y : AB) (p : Int) : Prop := ∀ n, okSeg n → ∀ e ∈ (Y.at n).A, e.pl ≠ ⟨false, p⟩
theorem Clean.of_none {Y : AB} {p : Int} (hst : Stl Y) (hn : mget Y.bd p = none) : Clean Y p := by
  intro n hn2 e he hp
  obtain ⟨-, -, a3⟩ := hst n hn2 e he
  have h1 : e.tun = false := congrArg Pl.tun hp
  have h2 : e.n = p := congrArg Pl.n hp
  have := a3 h1
  rw [h2, hn] at this; cases this
theorem Clean.unbind {X : AB} (hg : Good X) (hst : Stl X) (p : Int) : Clean (aUnbind X p).2 p := Clean.of_none (Stl.unbind hg hst p) (unbind_none hg p)
/-- Bound, where it was not bound to that segment. -/
theorem bind_clean {X : AB} (hg : Good X) (hst : Stl X) {p t : Int} (hr : (aBind X p t).1 = 0) (hne : mget X.bd p ≠ some t) : okSeg t ∧ Clean (aBind X p t).2 p ∧ mget (aBind X p t).2.bd p = some t := by
  unfold aBind at hr ⊢
  split
  · rename_i h; rw [if_pos h] at hr; cases hr
  · rename_i h1
    rw [if_neg h1, if_neg hne] at hr
    split
    · rename_i h; rw [if_pos h] at hr; cases hr
    · have ht : okSeg t := Classical.byContradiction fun hh => h1 (.inr hh)
      have hY := hg.unbind p
      have hc := Clean.unbind hg hst p
      refine ⟨ht, ?_, ?_⟩
      · intro n hn e he
        have ea : (⟨mput (aUnbind X p).2.bd p t, (aUnbind X p).2.sg.set t.toNat (bindS ((aUnbind X p).2.at t) p)⟩ : AB).at n = if n = t then bindS ((aUnbind X p).2.at t) p else (aUnbind X p).2.at n := at_put hY.len ht hn _
        rw [ea] at he
        split at he
        · exact hc t ht e he
        · exact hc n hn e he
      · simp only
        rw [mget_mput hY.nd, if_pos rfl]
theorem bind_codes (X : AB) (p t : Int) : (aBind X p t).1 = 0 ∨ (aBind X p t).1 = 1 ∨ (aBind X p t).1 = 5 := by
  unfold aBind
  split
  · exact .inr (.inl rfl)
  split
  · exact .inl rfl
  split
  · exact .inr (.inr rfl)
  · exact .inl rfl
/-- Bound to a segment, and no longer, and again. -/
theorem rebind {X : AB} (hg : Good X) (hst : Stl X) {p t : Int} (hp : 0 ≤ p) (hb : mget X.bd p = some t) : aBind X p t = (0, X) ∧ (aUnbind X p).1 = 0 ∧ (aBind (aUnbind X p).2 p t).1 = 0 ∧ mget (aUnbind X p).2.bd p ≠ some t := by
  have ht := (hg.bk p t hb).2
  have h1 : ¬ (p < 0 ∨ ¬ okSeg t) := by
    rintro (h | h)
    · omega
    · exact h ht
  have hn := unbind_none hg p
  refine ⟨?_, ?_, ?_, by rw [hn]; simp⟩
  · unfold aBind
    rw [if_neg h1, if_pos hb]
  · unfold aUnbind
    rw [hb]
  · unfold aBind
    rw [if_neg h1, if_neg (by rw [hn]; simp), if_neg]
    rintro ⟨-, h⟩
    have := unbind_len hg hb
    have := hg.bl
    omega
def cntI (p : Int) (l : List Int) : Int := ((l.filter (fun x => x == p)).length : Int)
theorem cntI_snoc (p : Int) (l : List Int) (x : Int) : cntI p (l ++ [x]) = cntI p l + (if x == p then 1 else 0) := by
  unfold cntI
  rw [List.filter_append, List.length_append]
  cases h : x == p
  · simp [h]
  · simp [h]
theorem cntI_le (p : Int) (l : List Int) : 0 ≤ cntI p l ∧ cntI p l ≤ (l.length : Int) := by
  unfold cntI
  have := List.length_filter_le (fun x => x == p) l
  omega
theorem cntI_ris {l : List Int} (h : Ris l) (p : Int) : cntI p l = if p ∈ l then 1 else 0 := by
  unfold cntI
  induction l with
  | nil => rfl
  | cons a r ih =>
    obtain ⟨h1, h2⟩ := List.pairwise_cons.1 h
    rw [List.filter_cons]
    by_cases e : a = p
    · subst e
      rw [if_pos (by simp), if_pos (by simp)]
      have hn : a ∉ r := fun hm => by have := h1 a hm; omega
      have := ih h2
      rw [if_neg hn] at this
      simp only [List.length_cons]
      omega
    · rw [if_neg (by simpa using e), ih h2]
      have : (p ∈ a :: r) ↔ p ∈ r := by simp [Ne.symm e]
      simp only [this]
/-- A segment's ports: the port itself once, if it is that segment's. -/
theorem ports_cnt {Y : AB} (hg : Good Y) {p t n : Int} (hb : mget Y.bd p = some t) (hn : okSeg n) : cntI p (Y.at n).ps = if n = t then 1 else 0 := by
  rw [cntI_ris (hg.rp n hn)]
  have := hg.mem n hn p
  rw [hb] at this
  by_cases h : n = t
  · rw [if_pos h, if_pos (this.2 (by rw [h]))]
  · rw [if_neg h, if_neg]
    intro hm
    exact h (Option.some.inj (this.1 hm)).symm
end Go.Proofs.Yticebdoiahadoaa

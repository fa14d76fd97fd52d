/- fdb: add where there is no room. -/
import Derived.Test.YticebdoiahadoaaFd17
namespace Go.Proofs.Yticebdoiahadoaa
open Go.RowKit
set_option linter.unusedVariables false
set_option linter.unusedSimpArgs false

theorem cmpZ_cases (x y : Int) : (x < y ∧ cmpZ x y = -1) ∨ (x = y ∧ cmpZ x y = 0) ∨ (y < x ∧ cmpZ x y = 1) := by
  unfold cmpZ
  by_cases h1 : x < y
  · exact .inl ⟨h1, by rw [if_pos h1]⟩
  · by_cases h2 : y < x
    · exact .inr (.inr ⟨h2, by rw [if_neg h1, if_pos h2]⟩)
    · exact .inr (.inl ⟨by omega, by rw [if_neg h1, if_neg h2]⟩)
theorem cmpA_neg (x y : En) : cmpA x y < 0 ↔ x.at_ < y.at_ ∨ (x.at_ = y.at_ ∧ ltM x.mac y.mac = true) := by
  have h := cmpM_neg x.mac y.mac
  unfold cmpA orL orL orL
  rcases cmpZ_cases x.at_ y.at_ with ⟨h1, e⟩ | ⟨h1, e⟩ | ⟨h1, e⟩ <;> rw [e]
  · simp; exact .inl h1
  · rw [if_pos rfl]
    constructor
    · intro h2
      refine .inr ⟨h1, ?_⟩
      rw [← h]
      by_cases h3 : cmpM x.mac y.mac = 0
      · rw [if_pos h3] at h2; omega
      · rw [if_neg h3] at h2; simpa using h2
    · rintro (h2 | ⟨-, h2⟩)
      · omega
      · rw [← h] at h2
        have h3 : cmpM x.mac y.mac < 0 := by simpa using h2
        rw [if_neg (by omega)]; exact h3
  · simp; omega
/-- What MinFunc picks is least. -/
theorem minB_least (cf : Nat → Nat → Int) (hT : ∀ a b c, ¬ cf a b < 0 → ¬ cf b c < 0 → ¬ cf a c < 0) (hI : ∀ a, ¬ cf a a < 0) (hAs : ∀ a b, cf a b < 0 → ¬ cf b a < 0) (x : Nat) (l : List Nat) : ∀ b ∈ x :: l, ¬ cf b (minB cf x l) < 0 := by
  rw [← List.reverse_reverse l]
  induction l.reverse with
  | nil => intro b hb; simp at hb; subst hb; exact hI _
  | cons y l ih =>
    rw [List.reverse_cons, minB_snoc]
    intro b hb
    have hb2 : b ∈ x :: l.reverse ∨ b = y := by simp at hb ⊢; rcases hb with h | h | h <;> simp [h]
    split
    · rename_i hlt
      rcases hb2 with h | rfl
      · exact hT _ _ _ (ih b h) (hAs _ _ hlt)
      · exact hI _
    · rename_i hlt
      rcases hb2 with h | rfl
      · exact ih b h
      · exact hlt
theorem cmpA_trans (x y z : En) (h1 : ¬ cmpA x y < 0) (h2 : ¬ cmpA y z < 0) : ¬ cmpA x z < 0 := by
  rw [cmpA_neg] at *
  intro h3
  have e1 : ∀ a b : En, ltM a.mac b.mac = false → ltM b.mac a.mac = true ∨ a.mac = b.mac := by
    intro a b h
    by_cases hab : a.mac = b.mac
    · exact .inr hab
    · exact .inl (ltM_total h hab)
  have f1 : ¬ x.at_ < y.at_ := fun h => h1 (.inl h)
  have f2 : ¬ y.at_ < z.at_ := fun h => h2 (.inl h)
  rcases h3 with h3 | ⟨h3, h4⟩
  · omega
  · have g1 : x.at_ = y.at_ := by omega
    have g2 : y.at_ = z.at_ := by omega
    have m1 : ltM x.mac y.mac = false := by cases hh : ltM x.mac y.mac with | false => rfl | true => exact absurd (.inr ⟨g1, hh⟩) h1
    have m2 : ltM y.mac z.mac = false := by cases hh : ltM y.mac z.mac with | false => rfl | true => exact absurd (.inr ⟨g2, hh⟩) h2
    rcases e1 _ _ m1 with k1 | k1 <;> rcases e1 _ _ m2 with k2 | k2
    · have := ltM_trans h4 (ltM_trans k2 k1)
      rw [ltM_irrefl] at this; cases this
    · rw [← k2] at h4
      have := ltM_trans h4 k1
      rw [ltM_irrefl] at this; cases this
    · rw [k1] at h4
      have := ltM_trans h4 k2
      rw [ltM_irrefl] at this; cases this
    · rw [k1, k2] at h4
      rw [ltM_irrefl] at h4; cases h4
theorem cmpA_irrefl (x : En) : ¬ cmpA x x < 0 := by
  rw [cmpA_neg, ltM_irrefl]; simp
theorem cmpA_asymm (x y : En) (h : cmpA x y < 0) : ¬ cmpA y x < 0 := by
  rw [cmpA_neg] at *
  intro h2
  rcases h with h | ⟨h, h3⟩ <;> rcases h2 with h2 | ⟨h2, h4⟩
  · omega
  · omega
  · omega
  · rw [ltM_asymm h3] at h4; cases h4
end Go.Proofs.Yticebdoiahadoaa

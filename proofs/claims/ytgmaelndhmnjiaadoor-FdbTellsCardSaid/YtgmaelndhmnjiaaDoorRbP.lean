/- the reference's base and the row: plain. -/
import Derived.Test.YtgmaelndhmnjiaaDoorFdA
namespace Go.Proofs.YtgmaelndhmnjiaaDoor
open Go.RowKit
set_option linter.unusedVariables false
set_option linter.unusedSimpArgs false

theorem aput_lt {x : En} {r : AL} {e : En} (h : ltM x.mac e.mac = true) : aput (x :: r) e = x :: aput r e := by
  unfold aput
  rw [List.filter_cons, if_pos h, List.filter_cons, if_neg (by rw [ltM_asymm h]; simp)]
  rfl
theorem filter_none {A : AL} {q : En → Bool} (h : ∀ x ∈ A, q x = false) : A.filter q = [] := List.filter_eq_nil_iff.2 (fun x hx => by rw [h x hx]; simp)
theorem aput_first {A : AL} {e : En} (h : ∀ x ∈ A, ltM e.mac x.mac = true) : aput A e = e :: A := by
  unfold aput
  rw [filter_none (fun x hx => ltM_asymm (h x hx)), List.filter_eq_self.2 h]
  rfl
theorem adel_cut {A : AL} (h : Sor A) {i : Nat} {e : En} (hi : A[i]? = some e) : adel A e.mac = A.take i ++ A.drop (i + 1) := by
  induction A generalizing i with
  | nil => cases hi
  | cons x r ih =>
    obtain ⟨h1, h2⟩ := List.pairwise_cons.1 h
    unfold adel at ih ⊢
    cases i with
    | zero =>
      simp only [List.getElem?_cons_zero, Option.some.injEq] at hi
      subst hi
      rw [List.filter_cons, if_neg (by simp), List.filter_eq_self.2 (fun y hy => by simpa using fun e => ltM_ne (h1 y hy) e.symm)]
      rfl
    | succ i =>
      have hi : r[i]? = some e := by simpa using hi
      rw [List.filter_cons, if_pos (by simpa using ltM_ne (h1 e (List.mem_of_getElem? hi))), ih h2 hi]
      rfl
theorem aput_set {A : AL} (h : Sor A) {i : Nat} {y e : En} (hi : A[i]? = some y) (hm : y.mac = e.mac) : aput A e = A.set i e := by
  induction A generalizing i with
  | nil => cases hi
  | cons x r ih =>
    obtain ⟨h1, h2⟩ := List.pairwise_cons.1 h
    cases i with
    | zero =>
      simp only [List.getElem?_cons_zero, Option.some.injEq] at hi
      subst hi
      have h3 : aput (x :: r) e = aput r e := by
        unfold aput
        rw [List.filter_cons, if_neg (by rw [hm, ltM_irrefl]; simp), List.filter_cons, if_neg (by rw [hm, ltM_irrefl]; simp)]
      rw [h3, aput_first (fun z hz => by rw [← hm]; exact h1 z hz)]
      rfl
    | succ i =>
      have hi : r[i]? = some y := by simpa using hi
      rw [aput_lt (by rw [← hm]; exact h1 y (List.mem_of_getElem? hi)), ih h2 hi]
      rfl
theorem aput_ins {A : AL} (h : Sor A) {e : En} (hn : aget A e.mac = none) {k : Nat} (h1 : ∀ x ∈ A.take k, ltM x.mac e.mac = true) (h2 : ∀ y, A[k]? = some y → ltM y.mac e.mac = false) : aput A e = A.take k ++ e :: A.drop k := by
  induction A generalizing k with
  | nil => simp [aput]
  | cons x r ih =>
    obtain ⟨h3, h4⟩ := List.pairwise_cons.1 h
    rw [aget_none] at hn
    cases k with
    | zero =>
      have h5 := h2 x rfl
      have h6 : ltM e.mac x.mac = true := ltM_total h5 (hn x (by simp))
      rw [aput_first]
      · rfl
      · intro z hz
        rcases List.mem_cons.1 hz with rfl | hz
        · exact h6
        · exact ltM_trans h6 (h3 z hz)
    | succ k =>
      rw [aput_lt (h1 x (by simp)), ih h4 (k := k) (aget_none.2 (fun z hz => hn z (List.mem_cons_of_mem _ hz))) (fun z hz => h1 z (by rw [List.take_succ_cons]; exact List.mem_cons_of_mem _ hz)) (fun y hy => h2 y (by simpa using hy))]
      rfl
theorem aleast_snoc (A : AL) (x : En) : aleast (A ++ [x]) = if x.st = true then aleast A else match aleast A with
    | none => some x
    | some y => if x.at_ < y.at_ then some x else some y := by
  induction A with
  | nil => simp [aleast]
  | cons z l ih =>
    show aleast (z :: (l ++ [x])) = _
    have e1 : ∀ m : AL, aleast (z :: m) = if z.st = true then aleast m else match aleast m with
        | none => some z
        | some y => if y.at_ < z.at_ then some y else some z := fun m => rfl
    rw [e1, e1, ih]
    by_cases hz : z.st = true
    · rw [if_pos hz, if_pos hz]
    · rw [if_neg hz, if_neg hz]
      by_cases hx : x.st = true
      · rw [if_pos hx, if_pos hx]
      · rw [if_neg hx, if_neg hx]
        cases hl : aleast l with
        | none =>
          simp only
        | some y =>
          simp only
          by_cases h1 : x.at_ < y.at_
          · rw [if_pos h1]
            simp only
            by_cases h2 : y.at_ < z.at_
            · rw [if_pos h2, if_pos (show x.at_ < z.at_ by omega)]
              simp only
              rw [if_pos h1]
            · rw [if_neg h2]
          · rw [if_neg h1]
            simp only
            by_cases h2 : y.at_ < z.at_
            · rw [if_pos h2]
              simp only
              rw [if_neg h1]
            · rw [if_neg h2]
              simp only
              rw [if_neg (by omega)]
/-- What is left when the entries from i on have been looked at. -/
def G15 (F : En → Bool) (rs : AL) (i : Nat) : AL := rs.take i ++ (rs.drop i).filter F
theorem G15.all (F : En → Bool) (rs : AL) : G15 F rs rs.length = rs := by simp [G15]
theorem G15.zero (F : En → Bool) (rs : AL) : G15 F rs 0 = rs.filter F := by simp [G15]
theorem G15.len (F : En → Bool) {rs : AL} {i : Nat} (hi : i ≤ rs.length) : i ≤ (G15 F rs i).length ∧ (G15 F rs i).length ≤ rs.length := by
  have h := List.length_filter_le F (rs.drop i)
  rw [List.length_drop] at h
  unfold G15
  rw [List.length_append, List.length_take]
  omega
theorem G15.get (F : En → Bool) {rs : AL} {j : Nat} {y : En} (hy : rs[j]? = some y) : (G15 F rs (j + 1))[j]? = some y := by
  have hj := (List.getElem?_eq_some_iff.1 hy).1
  unfold G15
  rw [List.getElem?_append_left (by rw [List.length_take]; omega), List.getElem?_take, if_pos (by omega)]
  exact hy
theorem G15.keep (F : En → Bool) {rs : AL} {j : Nat} {y : En} (hy : rs[j]? = some y) (hf : F y = true) : G15 F rs j = G15 F rs (j + 1) := by
  obtain ⟨hj, he⟩ := List.getElem?_eq_some_iff.1 hy
  unfold G15
  rw [List.drop_eq_getElem_cons hj, he, List.filter_cons, if_pos hf, List.take_add_one, hy]
  simp
theorem G15.cut (F : En → Bool) {rs : AL} {j : Nat} {y : En} (hy : rs[j]? = some y) (hf : F y = false) : (G15 F rs (j + 1)).take j ++ (G15 F rs (j + 1)).drop (j + 1) = G15 F rs j := by
  obtain ⟨hj, he⟩ := List.getElem?_eq_some_iff.1 hy
  unfold G15
  rw [List.drop_eq_getElem_cons hj, he, List.filter_cons, if_neg (by rw [hf]; simp)]
  have h1 : (rs.take (j + 1)).length = j + 1 := by rw [List.length_take]; omega
  rw [List.take_append_of_le_length (by omega), List.take_take, List.drop_append, List.drop_of_length_le (by omega), h1, Nat.sub_self, List.drop_zero]
  simp
/-- How many went. -/
def gone (F : En → Bool) (rs : AL) (i : Nat) : Int := ((rs.drop i).length : Int) - (((rs.drop i).filter F).length : Int)
theorem gone.step (F : En → Bool) {rs : AL} {j : Nat} {y : En} (hy : rs[j]? = some y) : gone F rs j = gone F rs (j + 1) + (if F y = true then 0 else 1) := by
  obtain ⟨hj, he⟩ := List.getElem?_eq_some_iff.1 hy
  unfold gone
  rw [List.drop_eq_getElem_cons hj, he, List.filter_cons]
  by_cases h : F y = true
  · rw [if_pos h, if_pos h]
    simp only [List.length_cons]
    omega
  · rw [if_neg h, if_neg h]
    simp only [List.length_cons]
    omega
theorem gone.all (F : En → Bool) (rs : AL) : gone F rs rs.length = 0 := by simp [gone]
theorem gone.zero (F : En → Bool) (rs : AL) : gone F rs 0 = (rs.length : Int) - ((rs.filter F).length : Int) := by simp [gone]
theorem gone.le (F : En → Bool) (rs : AL) (i : Nat) : 0 ≤ gone F rs i ∧ gone F rs i ≤ (rs.length : Int) := by
  have h := List.length_filter_le F (rs.drop i)
  unfold gone
  rw [List.length_drop] at h ⊢
  omega
end Go.Proofs.YtgmaelndhmnjiaaDoor

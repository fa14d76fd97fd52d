/- fdb: the order of MACs. -/
import Derived.Test.YticebdoiahadoaaDoorFd3
namespace Go.Proofs.YticebdoiahadoaaDoor
open Go.RowKit
set_option linter.unusedVariables false
set_option linter.unusedSimpArgs false
def macL (m : Mac) : List UInt8 := [m.a, m.b, m.c, m.d, m.e, m.f]
def cmpM (x y : Mac) : Int := Lib.compareBytes (macL x) (macL y)
def cmpE (x y : En) : Int := cmpM x.mac y.mac
/-- An entry's MAC as bytes. -/
theorem enBs {w : World} {b : Nat} {e : En} {cs : List Value} {t : TypeId} (h : w.heap[b]? = some (.cells (byteV e.mac.a :: byteV e.mac.b :: byteV e.mac.c :: byteV e.mac.d :: byteV e.mac.e :: byteV e.mac.f :: cs).toArray t (0, 0))) :
    Bs w (some ⟨b, 0, none⟩) 6 6 (macL e.mac) := by
  refine ⟨rfl, Nat.le_refl _, by omega, fun h => (by cases h), fun a ha j u hu => ?_⟩
  cases ha
  rw [Addr.add_lit, Nat.zero_add, cell_of_row w b j _ _ _ h]
  have hj : j < 6 := by have := (List.getElem?_eq_some_iff.1 hu).1; simpa [bytesV, macL] using this
  match j, hj, hu with
  | 0, _, hu => simpa [bytesV, macL] using hu
  | 1, _, hu => simpa [bytesV, macL] using hu
  | 2, _, hu => simpa [bytesV, macL] using hu
  | 3, _, hu => simpa [bytesV, macL] using hu
  | 4, _, hu => simpa [bytesV, macL] using hu
  | 5, _, hu => simpa [bytesV, macL] using hu

theorem bCmp_q (k : Nat) {w : World} {ao bo : Option Addr} {n cap m c : Nat} {xs ys : List UInt8} (h1 : Bs w ao n cap xs) (h2 : Bs w bo m c ys) :
    Calls Tryd.prog 54 #[.slice ao n cap, .slice bo m c] (w.drewN k) fun e w' => e = .returned (.int .i64 (Lib.compareBytes xs ys)) ∧ ∃ m, w' = w.drewN m :=
  (bCompare_any (h1.no ((Fr.refl No w).drewN k)) (h2.no ((Fr.refl No w).drewN k))).mono fun e w' ⟨he, hw⟩ => ⟨he, k, hw⟩

/-- The order of MACs. -/
theorem cmpB_spec : ∀ (x y : List UInt8), x.length = y.length → (Lib.compareBytes x y = 0 ∧ x = y) ∨ (Lib.compareBytes x y = -1 ∧ x < y) ∨ (Lib.compareBytes x y = 1 ∧ y < x)
  | [], [], _ => .inl ⟨rfl, rfl⟩
  | [], b :: q, h => by simp at h
  | a :: p, [], h => by simp at h
  | a :: p, b :: q, h => by
    unfold Lib.compareBytes
    by_cases h1 : a < b
    · exact .inr (.inl ⟨by rw [if_pos h1], List.Lex.rel h1⟩)
    · by_cases h2 : b < a
      · exact .inr (.inr ⟨by rw [if_neg h1, if_pos h2], List.Lex.rel h2⟩)
      · obtain rfl : a = b := by
          have h3 : ¬ a.toNat < b.toNat := h1
          have h4 : ¬ b.toNat < a.toNat := h2
          exact UInt8.toNat_inj.1 (by omega)
        rw [if_neg h1, if_neg h1]
        rcases cmpB_spec p q (by simpa using h) with ⟨e, rfl⟩ | ⟨e, h5⟩ | ⟨e, h5⟩
        · exact .inl ⟨e, rfl⟩
        · exact .inr (.inl ⟨e, List.Lex.cons h5⟩)
        · exact .inr (.inr ⟨e, List.Lex.cons h5⟩)
theorem macL_inj {x y : Mac} (h : macL x = macL y) : x = y := by
  obtain ⟨a, b, c, d, e, f⟩ := x
  obtain ⟨a', b', c', d', e', f'⟩ := y
  simp [macL] at h
  simp [h]
def ltM (x y : Mac) : Bool := decide (macL x < macL y)
def ltE (x y : En) : Bool := ltM x.mac y.mac
theorem cmpM_neg (x y : Mac) : decide (cmpM x y < 0) = ltM x y := by
  unfold cmpM ltM
  rcases cmpB_spec (macL x) (macL y) rfl with ⟨e, h⟩ | ⟨e, h⟩ | ⟨e, h⟩
  · rw [e, h]; simp [List.lt_irrefl]
  · rw [e]; simp [h]
  · rw [e]; simp only [show ¬ (1 : Int) < 0 by omega, decide_false]
    symm
    rw [decide_eq_false_iff_not]
    exact List.lt_asymm h
theorem cmpM_zero (x y : Mac) : cmpM x y = 0 ↔ x = y := by
  unfold cmpM
  rcases cmpB_spec (macL x) (macL y) rfl with ⟨e, h⟩ | ⟨e, h⟩ | ⟨e, h⟩
  · rw [e]; simp [macL_inj h]
  · rw [e]
    constructor
    · intro h2; cases h2
    · rintro rfl; exact absurd h (List.lt_irrefl _)
  · rw [e]
    constructor
    · intro h2; cases h2
    · rintro rfl; exact absurd h (List.lt_irrefl _)
theorem ltM_total {x y : Mac} (h : ltM x y = false) (hne : x ≠ y) : ltM y x = true := by
  unfold ltM at *
  rcases cmpB_spec (macL x) (macL y) rfl with ⟨e, h2⟩ | ⟨e, h2⟩ | ⟨e, h2⟩
  · exact absurd (macL_inj h2) hne
  · rw [decide_eq_false_iff_not] at h; exact absurd h2 h
  · simpa using h2
theorem ltM_irrefl (x : Mac) : ltM x x = false := by simp [ltM, List.lt_irrefl]
theorem ltM_trans {x y z : Mac} (h1 : ltM x y = true) (h2 : ltM y z = true) : ltM x z = true := by
  simp only [ltM, decide_eq_true_eq] at *
  exact List.lt_trans h1 h2
theorem ltM_asymm {x y : Mac} (h : ltM x y = true) : ltM y x = false := by
  simp only [ltM, decide_eq_true_eq, decide_eq_false_iff_not] at *
  exact List.lt_asymm h
end Go.Proofs.YticebdoiahadoaaDoor
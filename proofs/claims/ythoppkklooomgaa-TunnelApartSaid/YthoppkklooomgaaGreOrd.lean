/- gre: (*Order).Accept. -/
import Derived.Test.YthoppkklooomgaaGre4
import Derived.BigQuiet
namespace Go.Proofs.Ythoppkklooomgaa
open Go.RowKit
set_option linter.unusedVariables false
/-- An order: the number that was accepted last. -/
def Od (w : World) (ob : Nat) : Option Nat → Prop
  | none => w.heap[ob]? = some (.cells #[.pointer none] 76 (0, 0))
  | some x => ∃ lb, w.heap[ob]? = some (.cells #[.pointer (some ⟨lb, 0, none⟩)] 76 (0, 0)) ∧ w.heap[lb]? = some (.cells #[.int .u32 x] 22 (0, 0)) ∧ lb ≠ ob
def acc (st : Option Nat) (x : Nat) : Bool := match st with
  | none => true
  | some y => !((x + 4294967296 - y) % 4294967296 == 0 || decide (2147483647 < (x + 4294967296 - y) % 4294967296))
def accNext (st : Option Nat) (x : Nat) : Option Nat := if acc st x then some x else st
theorem Od.lt {w : World} {ob : Nat} {st : Option Nat} (h : Od w ob st) : ob < w.heap.size := by
  cases st with
  | none => exact lt_of_heap h
  | some x => obtain ⟨lb, h1, -⟩ := h; exact lt_of_heap h1
theorem Od.fr {S : Nat → Prop} {w w' : World} {ob : Nat} {st : Option Nat} (h : Od w ob st) (hf : Fr S w w') (hs : ∀ k, ¬ S k) : Od w' ob st := by
  cases st with
  | none => exact hf.heap h (hs _)
  | some x => obtain ⟨lb, h1, h2, h3⟩ := h; exact ⟨lb, hf.heap h1 (hs _), hf.heap h2 (hs _), h3⟩
theorem Od.no {w w' : World} {ob : Nat} {st : Option Nat} (h : Od w ob st) (hf : Fr No w w') : Od w' ob st := h.fr hf (fun _ h => h)

def AccOk (w : World) (ob : Nat) (st : Option Nat) (x : Nat) (e : Ending) (w' : World) : Prop :=
  e = .returned (.bool (acc st x)) ∧ Od w' ob (accNext st x) ∧ Fr (Is ob) w w'

theorem ahead_eq (x y : Nat) (hx : x < 4294967296) (hy : y < 4294967296) : IntKind.u32.wrap ((x : Int) - (y : Int)) = (((x + 4294967296 - y) % 4294967296 : Nat) : Int) := by
  rw [IntKind.wrap_u32]; omega

theorem Od.set {w : World} {ob : Nat} {x : Nat} {t : Nat} {v : Value} (h : w.heap[ob]? = some (.cells #[v] t (0, 0))) (ht : t = 76) {k : Nat} (hk : k = w.heap.size) :
    Od ((w.setCell ⟨ob, 0, none⟩ (.pointer (some ⟨k, 0, none⟩))).alloc (.cells #[.int .u32 x] 22)) ob (some x) := by
  subst hk
  subst ht
  have hl := lt_of_heap h
  refine ⟨w.heap.size, ((Fr.refl No _).alloc _).heap (set_row h 0 _ rfl) (fun h => h), ?_, by omega⟩
  have := heap_alloc_new (w.setCell ⟨ob, 0, none⟩ (.pointer (some ⟨w.heap.size, 0, none⟩))) (.cells #[.int .u32 x] 22)
  simpa using this

theorem Od.set2 {w : World} {ob : Nat} {x : Nat} {t : Nat} {v : Value} (h : w.heap[ob]? = some (.cells #[v] t (0, 0))) (ht : t = 76) {k : Nat} (hk : w.heap[k]? = some (.cells #[.int .u32 x] 22 (0, 0))) (hne : k ≠ ob) :
    Od (w.setCell ⟨ob, 0, none⟩ (.pointer (some ⟨k, 0, none⟩))) ob (some x) := by
  subst ht
  exact ⟨k, set_row h 0 _ rfl, (Fr.setCell (Fr.refl (Is ob) w) (p := ⟨ob, 0, none⟩) (.inl rfl) _).heap hk hne, hne⟩

theorem accept_any {w : World} {ob : Nat} {st : Option Nat} {x : Nat} (h : Od w ob st) (hx : x < 4294967296) (hy : ∀ y, st = some y → y < 4294967296) :
    Calls Try.prog 50 #[.pointer (some ⟨ob, 0, none⟩), .int .u32 x] w (AccOk w ob st x) := by
  have hlt := h.lt
  have F0 := Lib.hid (Fr.refl (Is ob) w)
  cases st with
  | none =>
    have H := Lib.hid h
    have c0 := cell_of_one h
    have z0 := frozen_of_row w ob 0 _ _ h
    clear h hy
    go_enter Try.func50, Try.ntmps50
    go_wp2_with fail
    go_ret
    refine ⟨rfl, ?_, ?_⟩
    · exact Od.set H.out rfl rfl
    · exact (F0.out.setCell (p := ⟨ob, 0, none⟩) (.inl rfl) _).alloc _
  | some y =>
    have hy := hy y rfl
    obtain ⟨lb, h1, h2, h3⟩ := h
    have c0 := cell_of_one h1
    have z0 := frozen_of_row w ob 0 _ _ h1
    have c1 := cell_of_one h2
    have hl2 := lt_of_heap h2
    have HW := Lib.hid (ahead_eq x y hx hy)
    obtain ⟨d, hd⟩ : ∃ d, d = (x + 4294967296 - y) % 4294967296 := ⟨_, rfl⟩
    have hd2 : d < 4294967296 := by omega
    have hA : acc (some y) x = !(d == 0 || decide (2147483647 < d)) := by rw [hd]; rfl
    rw [← hd] at HW
    have H1 := Lib.hid h1
    have H2 := Lib.hid h2
    have HA := Lib.hid hA
    have wa := HW.out
    clear hd h1 h2 hA
    by_cases hd0 : d = 0
    · have hacc : Hid (acc (some y) x = false) := Lib.hid (by rw [HA.out, hd0]; rfl)
      subst hd0
      go_enter Try.func50, Try.ntmps50
      go_upto_region 2 with fail
      go_quiet (fail)
      go_wp2_with fail
      go_ret
      refine ⟨by rw [hacc.out]; rfl, ?_, (F0.out.alloc _).drewN _⟩
      unfold accNext
      rw [if_neg (by rw [hacc.out]; decide)]
      exact (show Od w ob (some y) from ⟨lb, H1.out, H2.out, h3⟩).no (((Fr.refl No w).alloc _).drewN _)
    · have hz : ((d : Int) == 0) = false := by simp; omega
      by_cases hd1 : 2147483647 < d
      · have hq : (2147483647 : Int) < (d : Int) := by omega
        have hacc : Hid (acc (some y) x = false) := Lib.hid (by rw [HA.out]; simp [hd0]; omega)
        go_enter Try.func50, Try.ntmps50
        go_upto_region 2 with fail
        go_quiet (fail)
        go_wp2_with fail
        go_ret
        refine ⟨by rw [hacc.out]; rfl, ?_, (F0.out.alloc _).drewN _⟩
        unfold accNext
        rw [if_neg (by rw [hacc.out]; decide)]
        exact (show Od w ob (some y) from ⟨lb, H1.out, H2.out, h3⟩).no (((Fr.refl No w).alloc _).drewN _)
      · have hq : ¬ (2147483647 : Int) < (d : Int) := by omega
        have hacc : Hid (acc (some y) x = true) := Lib.hid (by rw [HA.out]; simp [hd0]; omega)
        go_enter Try.func50, Try.ntmps50
        go_upto_region 2 with fail
        go_quiet (fail)
        go_wp2_with fail
        go_ret
        refine ⟨by rw [hacc.out]; rfl, ?_, ?_⟩
        · unfold accNext
          rw [if_pos hacc.out]
          exact Od.set2 ((((Fr.refl No w).alloc _).drewN _).heap H1.out (fun h => h)) rfl (((Fr.refl No _).drewN _).heap (heap_alloc_new w _) (fun h => h)) (by omega)
        · exact ((F0.out.alloc _).drewN _).setCell (p := ⟨ob, 0, none⟩) (.inl rfl) _

end Go.Proofs.Ythoppkklooomgaa
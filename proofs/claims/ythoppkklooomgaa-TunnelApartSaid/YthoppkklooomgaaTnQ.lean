/- tunnel: an order inside a tunnel's entry. -/
import Derived.Test.YthoppkklooomgaaTnF
namespace Go.Proofs.Ythoppkklooomgaa
open Go.RowKit
set_option linter.unusedVariables false
set_option linter.unusedSimpArgs false
def AccAt (S : Nat → Prop) (w : World) (ob off : Nat) (cs : Array Value) (t : Nat) (st : Option Nat) (x : Nat) (e : Ending) (w' : World) : Prop :=
  e = .returned (.bool (acc st x)) ∧ Fr (Is ob) w w' ∧ ∃ lp', w'.heap[ob]? = some (.cells (cs.setIfInBounds off (.pointer lp')) t (0, 0)) ∧ LastAt (fun k => S k ∨ (w.heap.size ≤ k ∧ k < w'.heap.size)) w' lp' (accNext st x)
set_option maxRecDepth 100000 in
set_option maxHeartbeats 800000 in
theorem accept_at {S : Nat → Prop} {w : World} {ob off t : Nat} {cs : Array Value} {lp : Option Addr} {st : Option Nat} {x : Nat} (h : w.heap[ob]? = some (.cells cs t (0, 0))) (hc : cs[off]? = some (.pointer lp)) (ht : t ≠ 22) (hl : LastAt S w lp st) (hx : x < 4294967296) (hy : ∀ y, st = some y → y < 4294967296) :
    Calls Try.prog 50 #[.pointer (some ⟨ob, off, none⟩), .int .u32 x] w (AccAt S w ob off cs t st x) := by
  have hlt := lt_of_heap h
  have F0 := Lib.hid (Fr.refl (Is ob) w)
  have hself : cs.setIfInBounds off (.pointer lp) = cs := by
    apply Array.ext
    · simp
    · intro i h1 h2
      rw [Array.getElem_setIfInBounds]
      split
      · rename_i hi
        subst hi
        have := (Array.getElem?_eq_some_iff.1 hc).2
        exact this.symm
      · rfl
  have HSF := Lib.hid hself
  have c0 : w.cell? ⟨ob, off, none⟩ = some (.pointer lp) := by rw [cell_of_row w ob off _ _ _ h]; exact hc
  have z0 := frozen_of_row w ob off _ _ h
  have H := Lib.hid h
  clear h hc hself
  cases st with
  | none =>
    have hlp : lp = none := hl
    subst hlp
    clear hl hy
    go_enter Try.func50, Try.ntmps50
    go_wp2_with fail
    go_ret
    refine ⟨rfl, (F0.out.setCell (p := ⟨ob, off, none⟩) (.inl rfl) _).alloc _, some ⟨w.heap.size, 0, none⟩, ?_, ?_⟩
    · exact ((Fr.refl No _).alloc _).heap (set_row H.out off _ rfl) (fun h => h)
    · refine ⟨w.heap.size, rfl, ?_, .inr ⟨Nat.le_refl _, by simp [World.setCell]⟩⟩
      have := heap_alloc_new (w.setCell ⟨ob, off, none⟩ (.pointer (some ⟨w.heap.size, 0, none⟩))) (.cells #[.int .u32 x] 22)
      simpa [World.setCell] using this
  | some y =>
    have hy := hy y rfl
    obtain ⟨lb, rfl, h2, h3⟩ := hl
    have c1 := cell_of_one h2
    have hl2 := lt_of_heap h2
    have hlne : lb ≠ ob := by
      intro e
      rw [e, H.out] at h2; simp at h2; exact ht h2.2
    have HW := Lib.hid (ahead_eq x y hx hy)
    obtain ⟨d, hd⟩ : ∃ d, d = (x + 4294967296 - y) % 4294967296 := ⟨_, rfl⟩
    have hd2 : d < 4294967296 := by omega
    have hA : acc (some y) x = !(d == 0 || decide (2147483647 < d)) := by rw [hd]; rfl
    rw [← hd] at HW
    have H2 := Lib.hid h2
    have HA := Lib.hid hA
    have HS3 := Lib.hid h3
    have wa := HW.out
    clear hd h2 hA h3
    have keep : ∀ w' : World, acc (some y) x = false → Fr No w w' → ∃ lp', w'.heap[ob]? = some (.cells (cs.setIfInBounds off (.pointer lp')) t (0, 0)) ∧ LastAt (fun k => S k ∨ (w.heap.size ≤ k ∧ k < w'.heap.size)) w' lp' (accNext (some y) x) := by
      intro w' ha f
      refine ⟨some ⟨lb, 0, none⟩, by rw [HSF.out]; exact f.heap H.out (fun h => h), ?_⟩
      unfold accNext
      rw [if_neg (by rw [ha]; decide)]
      exact ⟨lb, rfl, f.heap H2.out (fun h => h), .inl HS3.out⟩
    have KP := Lib.hid keep
    clear keep
    by_cases hd0 : d = 0
    · have hacc : Hid (acc (some y) x = false) := Lib.hid (by rw [HA.out, hd0]; rfl)
      subst hd0
      go_enter Try.func50, Try.ntmps50
      go_upto_region 2 with fail
      go_quiet (fail)
      go_wp2_with fail
      go_ret
      exact ⟨by rw [hacc.out]; rfl, (F0.out.alloc _).drewN _, KP.out _ hacc.out (((Fr.refl No w).alloc _).drewN _)⟩
    · have hz : ((d : Int) == 0) = false := by simp; omega
      by_cases hd1 : 2147483647 < d
      · have hq : (2147483647 : Int) < (d : Int) := by omega
        have hacc : Hid (acc (some y) x = false) := Lib.hid (by rw [HA.out]; simp [hd0]; omega)
        go_enter Try.func50, Try.ntmps50
        go_upto_region 2 with fail
        go_quiet (fail)
        go_wp2_with fail
        go_ret
        exact ⟨by rw [hacc.out]; rfl, (F0.out.alloc _).drewN _, KP.out _ hacc.out (((Fr.refl No w).alloc _).drewN _)⟩
      · have hq : ¬ (2147483647 : Int) < (d : Int) := by omega
        have hacc : Hid (acc (some y) x = true) := Lib.hid (by rw [HA.out]; simp [hd0]; omega)
        go_enter Try.func50, Try.ntmps50
        go_upto_region 2 with fail
        go_quiet (fail)
        go_wp2_with fail
        go_ret
        refine ⟨by rw [hacc.out]; rfl, ((F0.out.alloc _).drewN _).setCell (p := ⟨ob, off, none⟩) (.inl rfl) _, some ⟨w.heap.size, 0, none⟩, set_row ((((Fr.refl No w).alloc _).drewN _).heap H.out (fun h => h)) off _ rfl, ?_⟩
        unfold accNext
        rw [if_pos hacc.out]
        refine ⟨w.heap.size, rfl, ?_, .inr ⟨Nat.le_refl _, by simp [World.setCell, World.drewN]⟩⟩
        exact (Fr.setCell (Fr.refl (Is ob) _) (p := ⟨ob, off, none⟩) (.inl rfl) _).heap (((Fr.refl No _).drewN _).heap (heap_alloc_new w _) (fun h => h)) (fun h : w.heap.size = ob => by omega)
end Go.Proofs.Ythoppkklooomgaa
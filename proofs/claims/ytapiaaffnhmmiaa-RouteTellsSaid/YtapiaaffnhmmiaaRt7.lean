/- route: Add, whole; the statements' own 'shown'. -/
import Derived.Test.YtapiaaffnhmmiaaRt3
import Derived.Test.YtapiaaffnhmmiaaRt6
namespace Go.Proofs.Ytapiaaffnhmmiaa
open Go.RowKit
set_option linter.unusedVariables false
set_option linter.unusedSimpArgs false

theorem rtAdd_any {w : World} {tb mb : Nat} {l : List ((Int × Int) × Rt)} (h : RTb w tb mb l) (r : Rt) (hr : r.ok) (hl : l.length ≤ 64)
    {c : Int} {l' : List ((Int × Int) × Rt)} (hc : addCode l r = c) (hl' : addTo l r = l') :
    Calls Try.prog 20 #[.pointer (some ⟨tb, 0, none⟩), evR r] w (AddP w tb mb c l') := by
  obtain ⟨d, b, v, o⟩ := r
  obtain ⟨⟨hd0, hd1⟩, ⟨hb0, hb1⟩, -, -⟩ := hr
  simp only at hd0 hd1 hb0 hb1
  unfold addTo at hl'
  rw [hc] at hl'
  unfold addCode at hc
  simp only at hc
  by_cases h1 : b < 0
  · rw [if_pos (.inl h1)] at hc
    subst hc
    rw [if_neg (by omega)] at hl'
    subst hl'
    exact rtAdd_arg1 h h1
  · by_cases h2 : 32 < b
    · rw [if_pos (.inr (.inl h2))] at hc
      subst hc
      rw [if_neg (by omega)] at hl'
      subst hl'
      exact rtAdd_arg2 h h2
    · by_cases h3 : cutN d b = d
      · rw [if_neg (by intro h; rcases h with h | h | h; exact h1 h; exact h2 h; exact h h3)] at hc
        refine rtAdd_in h hd0 hd1 (show 0 ≤ b by omega) (show b ≤ 32 by omega) h3 hl ?_
        by_cases h4 : (mget l (d, b)).isSome = false ∧ 64 ≤ l.length
        · rw [if_pos h4] at hc
          subst hc
          rw [if_neg (by omega)] at hl'
          exact .inl ⟨⟨by simpa using h4.1, h4.2⟩, rfl, hl'.symm⟩
        · rw [if_neg h4] at hc
          subst hc
          rw [if_pos rfl] at hl'
          exact .inr ⟨fun h => h4 ⟨by simpa using h.1, h.2⟩, rfl, hl'.symm⟩
      · rw [if_pos (.inr (.inr h3))] at hc
        subst hc
        rw [if_neg (by omega)] at hl'
        subst hl'
        exact rtAdd_arg3 h hd0 hd1 (show 0 ≤ b by omega) (show b ≤ 32 by omega) h3

def s8a : Rt := ⟨167772160, 8, 0, 1⟩
def s8b : Rt := ⟨167837696, 16, 0, 2⟩
def s8l : List ((Int × Int) × Rt) := [((167772160, 8), s8a), ((167837696, 16), s8b)]

def ShownP (w : World) (e : Ending) (w' : World) : Prop := e = .returned (.bool true) ∧ Fr No w w'

set_option maxRecDepth 100000 in
set_option maxHeartbeats 1000000 in
theorem l8shown_any (w : World) : Calls Try.prog 9 #[] w (ShownP w) := by
  go_enter Try.func9, Try.ntmps9
  go_wp2_with fail
  refine (rtNew_any _).mono ?_
  rintro e w1 ⟨rfl, t1, f1⟩
  have T1 := Lib.hid t1
  have F1 := Lib.hid f1
  clear t1 f1
  go_wp2_with fail
  have hn1 : w.heap.size ≤ w.heap.size := Nat.le_refl _
  refine (rtAdd_any T1.out s8a (by unfold Rt.ok; decide) (by decide) (c := 0) (l' := [((167772160, 8), s8a)]) (by decide +kernel) (by decide +kernel)).mono ?_
  rintro e w2 ⟨rfl, t2, f2⟩
  have T2 := Lib.hid t2
  have F2 := Lib.hid (F1.out.then f2 (by rintro i hi (rfl : i = _); omega))
  clear t2 f2 T1
  go_wp2_with fail
  refine (rtAdd_any T2.out s8b (by unfold Rt.ok; decide) (by decide) (c := 0) (l' := s8l) (by decide +kernel) (by decide +kernel)).mono ?_
  rintro e w3 ⟨rfl, t3, f3⟩
  have T3 := Lib.hid t3
  have F3 := Lib.hid (F2.out.then f3 (by rintro i hi (rfl : i = _); omega))
  clear t3 f3 T2
  go_wp2_with fail
  refine (rtAdd_any T3.out ⟨1, 8, 0, 0⟩ (by unfold Rt.ok; decide) (by decide) (c := 1) (l' := s8l) (by decide +kernel) (by decide +kernel)).mono ?_
  rintro e w4 ⟨rfl, t4, f4⟩
  have T4 := Lib.hid t4
  have F4 := Lib.hid (F3.out.then f4 (by rintro i hi (rfl : i = _); omega))
  clear t4 f4 T3
  go_wp2_with fail
  refine (rtFind_any T4.out (by omega) (by omega) (x := some s8b) (by decide +kernel)).mono ?_
  rintro e w5 ⟨rfl, f5⟩
  have T5 := Lib.hid (T4.out.no f5)
  have F5 := Lib.hid (F4.out.then_no f5)
  clear f5 T4
  simp only [Option.getD_some, Option.isSome_some, evR, s8b]
  go_wp2_with fail
  have b5 : Hid (∃ o, w5.alloc o = w5.alloc o ∧ o = .cells #[.int .u32 167837696, .int .i64 16, .int .u32 0, .int .i64 2] 33) := Lib.hid ⟨_, rfl, rfl⟩
  refine (rtFind_any (ip := 167903232) (T5.out.no ((Fr.refl No w5).alloc _)) (by omega) (by omega) (x := some s8a) (by decide +kernel)).mono ?_
  rintro e w6 ⟨rfl, f6⟩
  have T6 := Lib.hid (T5.out.no ((Fr.refl _ _).alloc _ |>.then_no f6))
  have F6 := Lib.hid ((F5.out.alloc _).then_no f6)
  have h6 := f6.heap (heap_alloc_new w5 _) (fun h => h)
  have H6 := Lib.hid h6
  have hs6 := lt_of_heap h6
  clear f6 T5 F5 b5 h6
  simp only [Option.getD_some, Option.isSome_some, evR, s8a]
  go_wp2_with fail
  refine (rtFind_any (ip := 1) (T6.out.no ((Fr.refl No w6).alloc _)) (by omega) (by omega) (x := none) (by decide +kernel)).mono ?_
  rintro e w7 ⟨rfl, f7⟩
  have T7 := Lib.hid (T6.out.no ((Fr.refl _ _).alloc _ |>.then_no f7))
  have F7 := Lib.hid ((F6.out.alloc _).then_no f7)
  have h7 := f7.heap (heap_alloc_new w6 _) (fun h => h)
  have H7 := Lib.hid h7
  have h67 := (((Fr.refl No w6).alloc _).then_no f7).heap H6.out (fun h => h)
  have H67 := Lib.hid h67
  have hs7 := lt_of_heap h7
  have hs67 := lt_of_heap h67
  clear f7 T6 F6 h7 h67 H6 hs6
  simp only [Option.getD_none, Option.isSome_none, evR]
  have h8 := ((Fr.refl No w7).alloc (.cells #[.int .u32 0, .int .i64 0, .int .u32 0, .int .i64 0] 33)).heap H7.out (fun h => h)
  have h9 := ((Fr.refl No w7).alloc (.cells #[.int .u32 0, .int .i64 0, .int .u32 0, .int .i64 0] 33)).heap H67.out (fun h => h)
  have c7 := cell_of_row _ _ 3 _ _ _ h8
  have c6 := cell_of_row _ _ 3 _ _ _ h9
  simp only [List.getElem?_toArray, List.getElem?_cons_zero, List.getElem?_cons_succ] at c6 c7
  clear h8 h9
  go_wp2_with fail
  refine (rtList_any (T7.out.no ((Fr.refl No w7).alloc _)) (by decide)).mono ?_
  rintro e w8 ⟨ao, n, cap, xs, rfl, h1, h2, -, -, -, f8⟩
  have hn : n = 2 := by rw [h1, h2.length_eq]; rfl
  subst hn
  have T8 := Lib.hid (T7.out.no ((Fr.refl _ _).alloc _ |>.then_no f8))
  have F8 := Lib.hid ((F7.out.alloc _).then_no f8)
  clear h1 h2 f8 c6 c7 T7 F7
  go_wp2_with fail
  refine (rtDel_any T8.out (d := 1) (b := 1) (by unfold okK; decide) (c := 6) (l' := s8l) (.inl ⟨by decide +kernel, rfl, rfl⟩)).mono ?_
  rintro e w9 ⟨rfl, t9, f9⟩
  have F9 := Lib.hid (F8.out.then f9 (by rintro i hi (rfl : i = _); omega))
  clear t9 f9
  go_wp2_with fail
  go_ret
  exact ⟨rfl, F9.out⟩
end Go.Proofs.Ytapiaaffnhmmiaa

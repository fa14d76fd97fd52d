/- the reference's routes: Find. -/
import Derived.Test.YtapiaaffnhmmiaaRt11
namespace Go.Proofs.Ytapiaaffnhmmiaa
open Go.RowKit
set_option linter.unusedVariables false
set_option linter.unusedSimpArgs false

theorem set4 {w : World} {b : Nat} {c0 c1 c2 c3 : Value} {e : TypeId} (h : w.heap[b]? = some (.cells #[c0, c1, c2, c3] e (0, 0))) (d0 d1 d2 d3 : Value) :
    ((((w.setCell ⟨b, 0, none⟩ d0).setCell ⟨b, 1, none⟩ d1).setCell ⟨b, 2, none⟩ d2).setCell ⟨b, 3, none⟩ d3).heap[b]? = some (.cells #[d0, d1, d2, d3] e (0, 0)) := by
  have h1 : ∀ (w : World) (cs : Array Value) (j : Nat) (u : Value), w.heap[b]? = some (.cells cs e (0, 0)) → (w.setCell ⟨b, j, none⟩ u).heap[b]? = some (.cells (cs.setIfInBounds j u) e (0, 0)) := by
    intro w cs j u h
    simp only [World.setCell, Array.getElem?_modify, if_true, h, Option.map_some, Option.isSome_none, Bool.false_eq_true, if_false]
  have := h1 _ _ 3 d3 (h1 _ _ 2 d2 (h1 _ _ 1 d1 (h1 _ _ 0 d0 h)))
  simpa using this

set_option maxRecDepth 100000 in
set_option maxHeartbeats 2000000 in
theorem r8Find_any {w : World} {rb n cap : Nat} {ao : Option Addr} {rs : List Rt} (h : R8 w rb ao n cap rs) {ip : Int} (h0 : 0 ≤ ip) (h1 : ip < 4294967296) {x : Option Rt} (hx : best8 ip rs = x) :
    Calls Try.prog 16 #[.pointer (some ⟨rb, 0, none⟩), .int .u32 ip] w (FindP w x) := by
  have hrl := lt_of_heap h.box
  have hc1 := h.own.le
  have hc2 := h.own.capLe
  have QT := Lib.hid h
  have HX := Lib.hid hx
  clear h hx
  go_enter Try.func16, Try.ntmps16
  go_wp2_with fail
  have z0 := ((Fr.refl No _).alloc (.cells #[.int .u32 0, .int .i64 0, .int .u32 0, .int .i64 0] 36)).heap (heap_alloc_new w (.cells #[.int .u32 0, .int .i64 0, .int .u32 0, .int .i64 0] 36)) (fun h => h)
  have z1 := heap_alloc_new (w.alloc (.cells #[.int .u32 0, .int .i64 0, .int .u32 0, .int .i64 0] 36)) (.cells #[.int .u32 0, .int .i64 0, .int .u32 0, .int .i64 0] 36)
  rw [show (w.alloc (.cells #[.int .u32 0, .int .i64 0, .int .u32 0, .int .i64 0] 36)).heap.size = w.heap.size + 1 from by simp] at z1
  have F1 : Fr No w _ := ((Fr.refl No w).alloc (.cells #[.int .u32 0, .int .i64 0, .int .u32 0, .int .i64 0] 36)).alloc (.cells #[.int .u32 0, .int .i64 0, .int .u32 0, .int .i64 0] 36)
  generalize (w.alloc (.cells #[.int .u32 0, .int .i64 0, .int .u32 0, .int .i64 0] 36)).alloc (.cells #[.int .u32 0, .int .i64 0, .int .u32 0, .int .i64 0] 36) = w1 at z0 z1 F1 ⊢
  have Z0 := Lib.hid z0
  have Z1 := Lib.hid z1
  have HF1 := Lib.hid F1
  clear z0 z1 F1
  go_loopw [7, 8] (fun t7 t8 wr => ∃ (j : Nat) (a b c d : Int) (one : Bool), j ≤ n ∧ t8 = .int .i64 j ∧ t7 = .bool one ∧ (best8 ip (rs.take j)).getD ⟨0, 0, 0, 0⟩ = ⟨a, b, c, d⟩ ∧ (best8 ip (rs.take j)).isSome = one ∧
      wr.heap[w.heap.size]? = some (.cells #[.int .u32 0, .int .i64 0, .int .u32 0, .int .i64 0] 36 (0, 0)) ∧ wr.heap[w.heap.size + 1]? = some (.cells #[.int .u32 a, .int .i64 b, .int .u32 c, .int .i64 d] 36 (0, 0)) ∧ Fr No w wr) (fun _ t8 _ => n - (intOf t8).toNat)
  case atStart => exact ⟨0, 0, 0, 0, 0, false, by omega, rfl, rfl, by simp [best8], by simp [best8], Z0.out, Z1.out, HF1.out⟩
  case round =>
    clear Z0 Z1 HF1
    obtain ⟨j, a, b, c, d, one, hj, rfl, rfl, hv, ho, hz0, hz1, hf⟩ := hrel
    have HV := Lib.hid hv
    have HO := Lib.hid ho
    have Z0 := Lib.hid hz0
    have Z1 := Lib.hid hz1
    have HF := Lib.hid hf
    have TR := Lib.hid (QT.out.no hf)
    have kt := TR.out.cell
    clear hv ho hz0 hz1 hf
    by_cases hlt : j < n
    · obtain ⟨y, hy⟩ : ∃ y, rs[j]? = some y := ⟨rs[j]'(by rw [← QT.out.len]; exact hlt), List.getElem?_eq_getElem _⟩
      have hsn : best8 ip (rs.take (j + 1)) = step8 ip (best8 ip (rs.take j)) y := by rw [List.take_add_one, hy]; exact best8_snoc _ _ _
      have HSN := Lib.hid hsn
      obtain ⟨gb, goff, rfl, y0, y1, y2, y3⟩ := rows4_any QT.out.len TR.out.own.sl hy
      have HY := Lib.hid hy
      obtain ⟨yd, yb, yv, yo⟩ := y
      simp only at y0 y1 y2 y3
      obtain ⟨cv, hcv⟩ : ∃ cv, decide (cutN ip yb = yd) = cv := ⟨_, rfl⟩
      obtain ⟨lt, hltb⟩ : ∃ lt, decide (b < yb) = lt := ⟨_, rfl⟩
      have HCV := Lib.hid hcv
      have HST : Hid (step8 ip (best8 ip (rs.take j)) ⟨yd, yb, yv, yo⟩ = if cv = true ∧ (one = false ∨ lt = true) then some ⟨yd, yb, yv, yo⟩ else best8 ip (rs.take j)) := Lib.hid (by
        unfold step8
        rw [HV.out, HO.out, ← hcv, ← hltb]
        simp only [decide_eq_true_eq])
      have bj : (j : Int) < (n : Int) := by omega
      clear hy hsn hcv
      go_wp2_with fail
      refine (r8Covers_any ⟨yd, yb, yv, yo⟩ ip _ h0 h1 HCV.out).mono ?_
      rintro e w2 ⟨rfl, f2⟩
      have Z02 := Lib.hid (f2.heap Z0.out (fun h => h))
      have Z12 := Lib.hid (f2.heap Z1.out (fun h => h))
      have F2 := Lib.hid (HF.out.then_no f2)
      have T2 := Lib.hid (TR.out.no f2)
      have kt2 := T2.out.cell
      have x0 := f2.cell y0 (fun h => h)
      have x1 := f2.cell y1 (fun h => h)
      have x2 := f2.cell y2 (fun h => h)
      have x3 := f2.cell y3 (fun h => h)
      obtain ⟨q0, q1, q2, q3⟩ := cells4 Z12.out
      clear f2 Z0 Z1 HF TR y0 y1 y2 y3 kt
      by_cases hst : cv = true ∧ (one = false ∨ lt = true)
      · have HS2 := HST.out
        rw [if_pos hst] at HS2
        have HS3 := Lib.hid (HSN.out.trans HS2)
        clear HS2 HST HSN HV HO
        obtain ⟨rfl, hol⟩ := hst
        rcases hol with rfl | rfl
        all_goals try cases one
        all_goals
          go_wp2_with fail
          go_quiet (fail)
          generalize hw3 : World.drewN _ _ = w3
          have Z03 := Lib.hid (show w3.heap[w.heap.size]? = some (.cells #[.int .u32 0, .int .i64 0, .int .u32 0, .int .i64 0] 36 (0, 0)) by rw [← hw3]; exact Z02.out)
          have Z13 := Lib.hid (show w3.heap[w.heap.size + 1]? = some (.cells #[.int .u32 a, .int .i64 b, .int .u32 c, .int .i64 d] 36 (0, 0)) by rw [← hw3]; exact Z12.out)
          have F3 := Lib.hid (show Fr No w w3 by rw [← hw3]; exact F2.out.drewN _)
          have T3 := Lib.hid (show R8 w3 rb (some ⟨gb, goff, none⟩) n cap rs by rw [← hw3]; exact T2.out.no ((Fr.refl _ _).drewN _))
          have y0 : w3.cell? ⟨gb, goff + j * 4, none⟩ = some (.int .u32 yd) := by rw [← hw3]; exact x0
          have y1 : w3.cell? ⟨gb, goff + j * 4 + 1, none⟩ = some (.int .i64 yb) := by rw [← hw3]; exact x1
          have y2 : w3.cell? ⟨gb, goff + j * 4 + 2, none⟩ = some (.int .u32 yv) := by rw [← hw3]; exact x2
          have y3 : w3.cell? ⟨gb, goff + j * 4 + 3, none⟩ = some (.int .i64 yo) := by rw [← hw3]; exact x3
          clear hw3 x0 x1 x2 x3 q0 q1 q2 q3 kt2 Z02 Z12 F2 T2
          have kt := T3.out.cell
          obtain ⟨q0, q1, q2, q3⟩ := cells4 Z13.out
          obtain ⟨p0, p1, p2, p3⟩ := free4 Z13.out
          go_wp2_with fail
          go_roundw
          case rel =>
            refine ⟨j + 1, yd, yb, yv, yo, true, by omega, by go_num, rfl, by rw [HS3.out]; rfl, by rw [HS3.out]; rfl, ?_, set4 Z13.out _ _ _ _, ?_⟩
            · iterate 4 rw [Below.heap_setCell _ _ _ _ (by simp)]
              exact Z03.out
            · exact (((F3.out.setCell (.inr (by simp)) _).setCell (.inr (by simp)) _).setCell (.inr (by simp)) _).setCell (.inr (by simp)) _
          case measure => simp [intOf]; omega
      · have HS2 := HST.out
        rw [if_neg hst] at HS2
        have HS3 := HSN.out.trans HS2
        have HV3 := Lib.hid (show (best8 ip (rs.take (j + 1))).getD ⟨0, 0, 0, 0⟩ = ⟨a, b, c, d⟩ by rw [HS3]; exact HV.out)
        have HO3 := Lib.hid (show (best8 ip (rs.take (j + 1))).isSome = one by rw [HS3]; exact HO.out)
        clear HS2 HS3 HST HSN HV HO
        cases cv
        · clear hst
          go_wp2_with fail
          go_quiet (fail)
          go_wp2_with fail
          go_roundw
          case rel => exact ⟨j + 1, a, b, c, d, _, by omega, by go_num, rfl, HV3.out, HO3.out, Z02.out, Z12.out, F2.out.drewN _⟩
          case measure => simp [intOf]; omega
        · obtain ⟨rfl, rfl⟩ : one = true ∧ lt = false := by simpa using hst
          clear hst
          go_wp2_with fail
          go_quiet (fail)
          go_wp2_with fail
          go_roundw
          case rel => exact ⟨j + 1, a, b, c, d, _, by omega, by go_num, rfl, HV3.out, HO3.out, Z02.out, Z12.out, F2.out.drewN _⟩
          case measure => simp [intOf]; omega
    · have hjn : j = n := by omega
      have htk : rs.take j = rs := List.take_of_length_le (by have := QT.out.len; omega)
      rw [htk, HX.out] at HV HO
      clear htk hjn
      obtain ⟨q0, q1, q2, q3⟩ := cells4 Z1.out
      obtain ⟨p0, p1, p2, p3⟩ := cells4 Z0.out
      obtain ⟨r0, r1, r2, r3⟩ := free4 Z0.out
      go_wp2_with fail
      have zz := set4 Z0.out (.int .u32 a) (.int .i64 b) (.int .u32 c) (.int .i64 d)
      have ff : Fr No w ((((wr.setCell ⟨w.heap.size, 0, none⟩ (.int .u32 a)).setCell ⟨w.heap.size, 1, none⟩ (.int .i64 b)).setCell ⟨w.heap.size, 2, none⟩ (.int .u32 c)).setCell ⟨w.heap.size, 3, none⟩ (.int .i64 d)) :=
        (((HF.out.setCell (.inr (by simp)) _).setCell (.inr (by simp)) _).setCell (.inr (by simp)) _).setCell (.inr (by simp)) _
      have FF := Lib.hid ff
      clear ff p0 p1 p2 p3 r0 r1 r2 r3 q0 q1 q2 q3 kt
      generalize ((((wr.setCell ⟨w.heap.size, 0, none⟩ (.int .u32 a)).setCell ⟨w.heap.size, 1, none⟩ (.int .i64 b)).setCell ⟨w.heap.size, 2, none⟩ (.int .u32 c)).setCell ⟨w.heap.size, 3, none⟩ (.int .i64 d)) = wz at zz FF ⊢
      obtain ⟨s0, s1, s2, s3⟩ := cells4 zz
      clear zz
      refine bodyPost_ret (v := .tuple #[.agg #[.int .u32 a, .int .i64 b, .int .u32 c, .int .i64 d], .bool one]) (by simp [results, Try.results16, go_sem, *]; try rfl) rfl ?_
      refine ⟨?_, FF.out⟩
      rw [HV.out, HO.out]
      rfl
end Go.Proofs.Ytapiaaffnhmmiaa

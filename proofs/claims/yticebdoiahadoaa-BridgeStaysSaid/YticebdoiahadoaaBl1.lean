/- bridge laws: frame. -/
import Derived.Test.YticebdoiahadoaaBg12
namespace Go.Proofs.Yticebdoiahadoaa
open Go.RowKit
set_option linter.unusedVariables false
set_option linter.unusedSimpArgs false

def frB (t o : Mac) : List UInt8 := [t.a, t.b, t.c, t.d, t.e, t.f, o.a, o.b, o.c, o.d, o.e, o.f] ++ List.replicate 48 0
def frC (t o : Mac) (k : Nat) : List Value := ([t.a, t.b, t.c, t.d, t.e, t.f].take k).map byteV ++ List.replicate (6 - k) (Value.int .u8 0) ++ ([o.a, o.b, o.c, o.d, o.e, o.f].take k).map byteV ++ List.replicate (54 - k) (Value.int .u8 0)
theorem make60 (w : World) : (Instr.makeSlice 29 (.int .i64 60) (.int .i64 60)).run Try.prog w =
    .ok (.slice (some ⟨w.heap.size, 0, none⟩) 60 60) (w.alloc (.cells (List.replicate 60 (.int .u8 0)).toArray 5)) := by kernel_rfl
structure FrI (w0 : World) (g : Nat) (t o : Mac) (k : Nat) (wr : World) : Prop where
  to_ : wr.heap[w0.heap.size]? = some (.cells (encM t).toArray 25 (0, 0))
  of_ : wr.heap[w0.heap.size + 1]? = some (.cells (encM o).toArray 25 (0, 0))
  row : wr.heap[w0.heap.size + 2]? = some (.cells (frC t o k).toArray 5 (0, 0))
  fr : Fr No w0 wr
theorem FrI.step {w0 : World} {g : Nat} {t o : Mac} {k : Nat} {wr : World} (h : FrI w0 g t o k wr) {v1 v2 : Value} (h1 : ((frC t o k).set k v1).set (6 + k) v2 = frC t o (k + 1)) : FrI w0 g t o (k + 1) ((wr.setCell ⟨w0.heap.size + 2, k, none⟩ v1).setCell ⟨w0.heap.size + 2, 6 + k, none⟩ v2) := by
  have hr := set_row (set_row h.row k v1) (6 + k) v2
  simp only [List.setIfInBounds_toArray] at hr
  rw [h1] at hr
  have f : Fr (Is (w0.heap.size + 2)) wr ((wr.setCell ⟨w0.heap.size + 2, k, none⟩ v1).setCell ⟨w0.heap.size + 2, 6 + k, none⟩ v2) :=
    ((Fr.refl (Is (w0.heap.size + 2)) wr).setCell (p := ⟨w0.heap.size + 2, k, none⟩) (.inl rfl) _).setCell (p := ⟨w0.heap.size + 2, 6 + k, none⟩) (.inl rfl) _
  exact ⟨f.heap h.to_ (fun e => by simp only [Is] at e; omega), f.heap h.of_ (fun e => by simp only [Is] at e; omega), hr, (h.fr.setCell (p := ⟨w0.heap.size + 2, k, none⟩) (.inr (by simp)) _).setCell (p := ⟨w0.heap.size + 2, 6 + k, none⟩) (.inr (by simp)) _⟩
set_option maxRecDepth 100000 in
set_option maxHeartbeats 4000000 in
theorem l16frame_any (t o : Mac) (w : World) : Calls Try.prog 16 #[evM t, evM o] w fun e w' => ∃ g, e = .returned (.slice (some ⟨g, 0, none⟩) 60 60) ∧ Bs w' (some ⟨g, 0, none⟩) 60 60 (frB t o) ∧ Fr No w w' ∧ w.heap.size ≤ g := by
  have hmk := make60
  unfold evM byteV
  go_enter Try.func16, Try.ntmps16
  go_wp2_with fail
  have hst : FrI w 0 t o 0 (((w.alloc (.cells #[.int .u8 (t.a.toNat : Int), .int .u8 (t.b.toNat : Int), .int .u8 (t.c.toNat : Int), .int .u8 (t.d.toNat : Int), .int .u8 (t.e.toNat : Int), .int .u8 (t.f.toNat : Int)] 25)).alloc (.cells #[.int .u8 (o.a.toNat : Int), .int .u8 (o.b.toNat : Int), .int .u8 (o.c.toNat : Int), .int .u8 (o.d.toNat : Int), .int .u8 (o.e.toNat : Int), .int .u8 (o.f.toNat : Int)] 25)).alloc (.cells (List.replicate 60 (.int .u8 0)).toArray 5)) := by
    refine ⟨?_, ?_, ?_, ((Fr.refl No w).alloc _ |>.alloc _).alloc _⟩
    · exact (((Fr.refl No _).alloc _).alloc _).heap (heap_alloc_new w (.cells #[.int .u8 (t.a.toNat : Int), .int .u8 (t.b.toNat : Int), .int .u8 (t.c.toNat : Int), .int .u8 (t.d.toNat : Int), .int .u8 (t.e.toNat : Int), .int .u8 (t.f.toNat : Int)] 25)) (fun h => h)
    · have := ((Fr.refl No _).alloc (.cells (List.replicate 60 (.int .u8 0)).toArray 5)).heap (heap_alloc_new (w.alloc (.cells #[.int .u8 (t.a.toNat : Int), .int .u8 (t.b.toNat : Int), .int .u8 (t.c.toNat : Int), .int .u8 (t.d.toNat : Int), .int .u8 (t.e.toNat : Int), .int .u8 (t.f.toNat : Int)] 25)) (.cells #[.int .u8 (o.a.toNat : Int), .int .u8 (o.b.toNat : Int), .int .u8 (o.c.toNat : Int), .int .u8 (o.d.toNat : Int), .int .u8 (o.e.toNat : Int), .int .u8 (o.f.toNat : Int)] 25)) (fun h => h)
      simp only [World.size_alloc] at this
      exact this
    · have := heap_alloc_new ((w.alloc (.cells #[.int .u8 (t.a.toNat : Int), .int .u8 (t.b.toNat : Int), .int .u8 (t.c.toNat : Int), .int .u8 (t.d.toNat : Int), .int .u8 (t.e.toNat : Int), .int .u8 (t.f.toNat : Int)] 25)).alloc (.cells #[.int .u8 (o.a.toNat : Int), .int .u8 (o.b.toNat : Int), .int .u8 (o.c.toNat : Int), .int .u8 (o.d.toNat : Int), .int .u8 (o.e.toNat : Int), .int .u8 (o.f.toNat : Int)] 25)) (.cells (List.replicate 60 (.int .u8 0)).toArray 5)
      simp only [World.size_alloc] at this
      exact this
  have HST := Lib.hid hst
  clear hst
  go_loopw [6] (fun t6 wr => ∃ (k : Nat), k ≤ 6 ∧ t6 = .int .i64 k ∧ FrI w 0 t o k wr) (fun t6 _ => 6 - (intOf t6).toNat)
  case atStart => exact ⟨0, by omega, rfl, HST.out⟩
  case round =>
    obtain ⟨k, hk, rfl, hi⟩ := hrel
    have HI := Lib.hid hi
    have c0 : ∀ i v, (encM t)[i]? = some v → wr.cell? ⟨w.heap.size, i, none⟩ = some v := fun i v h => by rw [cell_of_row wr _ i _ _ _ HI.out.to_]; simpa using h
    have c1 : ∀ i v, (encM o)[i]? = some v → wr.cell? ⟨w.heap.size + 1, i, none⟩ = some v := fun i v h => by rw [cell_of_row wr _ i _ _ _ HI.out.of_]; simpa using h
    have c2 : ∀ i v, (frC t o k)[i]? = some v → wr.cell? ⟨w.heap.size + 2, i, none⟩ = some v := fun i v h => by rw [cell_of_row wr _ i _ _ _ HI.out.row]; simpa using h
    have z2 : ∀ i, wr.frozen? ⟨w.heap.size + 2, i, none⟩ = false := fun i => frozen_of_row wr _ i _ _ HI.out.row
    clear hi
    by_cases hlt : k < 6
    · have hk6 : k = 0 ∨ k = 1 ∨ k = 2 ∨ k = 3 ∨ k = 4 ∨ k = 5 := by omega
      rcases hk6 with rfl | rfl | rfl | rfl | rfl | rfl
      · have u0 := c0 0 (.int .u8 (t.a.toNat : Int)) rfl
        have u1 := c1 0 (.int .u8 (o.a.toNat : Int)) rfl
        have u2 := c2 0 _ rfl
        have u3 := c2 6 _ rfl
        have z3 := z2 0
        have z4 := z2 6
        have hs := HI.out.step (v1 := .int .u8 (t.a.toNat : Int)) (v2 := .int .u8 (o.a.toNat : Int)) rfl
        have HS := Lib.hid hs
        clear c0 c1 c2 z2 hs
        go_wp2_with fail
        go_roundw
        case rel => exact ⟨1, by omega, by go_num, HS.out⟩
        case measure => simp [intOf]
      · have u0 := c0 1 (.int .u8 (t.b.toNat : Int)) rfl
        have u1 := c1 1 (.int .u8 (o.b.toNat : Int)) rfl
        have u2 := c2 1 _ rfl
        have u3 := c2 7 _ rfl
        have z3 := z2 1
        have z4 := z2 7
        have hs := HI.out.step (v1 := .int .u8 (t.b.toNat : Int)) (v2 := .int .u8 (o.b.toNat : Int)) rfl
        have HS := Lib.hid hs
        clear c0 c1 c2 z2 hs
        go_wp2_with fail
        go_roundw
        case rel => exact ⟨2, by omega, by go_num, HS.out⟩
        case measure => simp [intOf]
      · have u0 := c0 2 (.int .u8 (t.c.toNat : Int)) rfl
        have u1 := c1 2 (.int .u8 (o.c.toNat : Int)) rfl
        have u2 := c2 2 _ rfl
        have u3 := c2 8 _ rfl
        have z3 := z2 2
        have z4 := z2 8
        have hs := HI.out.step (v1 := .int .u8 (t.c.toNat : Int)) (v2 := .int .u8 (o.c.toNat : Int)) rfl
        have HS := Lib.hid hs
        clear c0 c1 c2 z2 hs
        go_wp2_with fail
        go_roundw
        case rel => exact ⟨3, by omega, by go_num, HS.out⟩
        case measure => simp [intOf]
      · have u0 := c0 3 (.int .u8 (t.d.toNat : Int)) rfl
        have u1 := c1 3 (.int .u8 (o.d.toNat : Int)) rfl
        have u2 := c2 3 _ rfl
        have u3 := c2 9 _ rfl
        have z3 := z2 3
        have z4 := z2 9
        have hs := HI.out.step (v1 := .int .u8 (t.d.toNat : Int)) (v2 := .int .u8 (o.d.toNat : Int)) rfl
        have HS := Lib.hid hs
        clear c0 c1 c2 z2 hs
        go_wp2_with fail
        go_roundw
        case rel => exact ⟨4, by omega, by go_num, HS.out⟩
        case measure => simp [intOf]
      · have u0 := c0 4 (.int .u8 (t.e.toNat : Int)) rfl
        have u1 := c1 4 (.int .u8 (o.e.toNat : Int)) rfl
        have u2 := c2 4 _ rfl
        have u3 := c2 10 _ rfl
        have z3 := z2 4
        have z4 := z2 10
        have hs := HI.out.step (v1 := .int .u8 (t.e.toNat : Int)) (v2 := .int .u8 (o.e.toNat : Int)) rfl
        have HS := Lib.hid hs
        clear c0 c1 c2 z2 hs
        go_wp2_with fail
        go_roundw
        case rel => exact ⟨5, by omega, by go_num, HS.out⟩
        case measure => simp [intOf]
      · have u0 := c0 5 (.int .u8 (t.f.toNat : Int)) rfl
        have u1 := c1 5 (.int .u8 (o.f.toNat : Int)) rfl
        have u2 := c2 5 _ rfl
        have u3 := c2 11 _ rfl
        have z3 := z2 5
        have z4 := z2 11
        have hs := HI.out.step (v1 := .int .u8 (t.f.toNat : Int)) (v2 := .int .u8 (o.f.toNat : Int)) rfl
        have HS := Lib.hid hs
        clear c0 c1 c2 z2 hs
        go_wp2_with fail
        go_roundw
        case rel => exact ⟨6, by omega, by go_num, HS.out⟩
        case measure => simp [intOf]
    · obtain rfl : k = 6 := by omega
      clear c0 c1 c2 z2
      go_wp2_with fail
      go_ret
      exact ⟨w.heap.size + 2, rfl, OB.bs (e := 5) ⟨rfl, ⟨by rfl, Nat.le_refl _, by omega, (fun h => by cases h), fun a ha => by cases ha; exact ⟨rfl, _, HI.out.row, by rfl, by rfl⟩⟩⟩, HI.out.fr, by omega⟩
end Go.Proofs.Yticebdoiahadoaa

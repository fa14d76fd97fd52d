/- bridge laws: frame. bridge laws: a bridge that keeps off some blocks. bridge laws: shown. -/
import Derived.Test.YticebdoiahadoaaDoorBgR
namespace Go.Proofs.YticebdoiahadoaaDoor
open Go.RowKit
set_option linter.unusedVariables false
set_option linter.unusedSimpArgs false
def frB (t o : Mac) : List UInt8 := [t.a, t.b, t.c, t.d, t.e, t.f, o.a, o.b, o.c, o.d, o.e, o.f] ++ List.replicate 48 0
def frC (t o : Mac) (k : Nat) : List Value := ([t.a, t.b, t.c, t.d, t.e, t.f].take k).map byteV ++ List.replicate (6 - k) (Value.int .u8 0) ++ ([o.a, o.b, o.c, o.d, o.e, o.f].take k).map byteV ++ List.replicate (54 - k) (Value.int .u8 0)
theorem make60 (w : World) : (Instr.makeSlice 40 (.int .i64 60) (.int .i64 60)).run Tryd.prog w =
    .ok (.slice (some ⟨w.heap.size, 0, none⟩) 60 60) (w.alloc (.cells (List.replicate 60 (.int .u8 0)).toArray 5)) := by kernel_rfl
structure FrI (w0 : World) (g : Nat) (t o : Mac) (k : Nat) (wr : World) : Prop where
  to_ : wr.heap[w0.heap.size]? = some (.cells (encM t).toArray 24 (0, 0))
  of_ : wr.heap[w0.heap.size + 1]? = some (.cells (encM o).toArray 24 (0, 0))
  row : wr.heap[w0.heap.size + 2]? = some (.cells (frC t o k).toArray 5 (0, 0))
  fr : Fr No w0 wr
theorem FrI.step {w0 : World} {g : Nat} {t o : Mac} {k : Nat} {wr : World} (h : FrI w0 g t o k wr) {v1 v2 : Value} (h1 : ((frC t o k).set k v1).set (6 + k) v2 = frC t o (k + 1)) : FrI w0 g t o (k + 1) ((wr.setCell ⟨w0.heap.size + 2, k, none⟩ v1).setCell ⟨w0.heap.size + 2, 6 + k, none⟩ v2) := by
  have hr := set_row (set_row h.row k v1) (6 + k) v2
  simp only [List.setIfInBounds_toArray] at hr
  rw [h1] at hr
  have f : Fr (Is (w0.heap.size + 2)) wr ((wr.setCell ⟨w0.heap.size + 2, k, none⟩ v1).setCell ⟨w0.heap.size + 2, 6 + k, none⟩ v2) :=
    ((Fr.refl (Is (w0.heap.size + 2)) wr).setCell (p := ⟨w0.heap.size + 2, k, none⟩) (.inl rfl) _).setCell (p := ⟨w0.heap.size + 2, 6 + k, none⟩) (.inl rfl) _
  exact ⟨f.heap h.to_ (fun e => by simp only [Is] at e; omega), f.heap h.of_ (fun e => by simp only [Is] at e; omega), hr, (h.fr.setCell (p := ⟨w0.heap.size + 2, k, none⟩) (.inr (by simp)) _).setCell (p := ⟨w0.heap.size + 2, 6 + k, none⟩) (.inr (by simp)) _⟩
set_option maxRecDepth 100000 in
set_option maxHeartbeats 4000000 in
theorem l16frame_any (t o : Mac) (w : World) : Calls Tryd.prog 10 #[evM t, evM o] w fun e w' => ∃ g, e = .returned (.slice (some ⟨g, 0, none⟩) 60 60) ∧ Bs w' (some ⟨g, 0, none⟩) 60 60 (frB t o) ∧ Fr No w w' ∧ w.heap.size ≤ g := by
  have hmk := make60
  unfold evM byteV
  go_enter Tryd.func10, Tryd.ntmps10
  go_wp2_with fail
  have hst : FrI w 0 t o 0 (((w.alloc (.cells #[.int .u8 (t.a.toNat : Int), .int .u8 (t.b.toNat : Int), .int .u8 (t.c.toNat : Int), .int .u8 (t.d.toNat : Int), .int .u8 (t.e.toNat : Int), .int .u8 (t.f.toNat : Int)] 24)).alloc (.cells #[.int .u8 (o.a.toNat : Int), .int .u8 (o.b.toNat : Int), .int .u8 (o.c.toNat : Int), .int .u8 (o.d.toNat : Int), .int .u8 (o.e.toNat : Int), .int .u8 (o.f.toNat : Int)] 24)).alloc (.cells (List.replicate 60 (.int .u8 0)).toArray 5)) := by
    refine ⟨?_, ?_, ?_, ((Fr.refl No w).alloc _ |>.alloc _).alloc _⟩
    · exact (((Fr.refl No _).alloc _).alloc _).heap (heap_alloc_new w (.cells #[.int .u8 (t.a.toNat : Int), .int .u8 (t.b.toNat : Int), .int .u8 (t.c.toNat : Int), .int .u8 (t.d.toNat : Int), .int .u8 (t.e.toNat : Int), .int .u8 (t.f.toNat : Int)] 24)) (fun h => h)
    · have := ((Fr.refl No _).alloc (.cells (List.replicate 60 (.int .u8 0)).toArray 5)).heap (heap_alloc_new (w.alloc (.cells #[.int .u8 (t.a.toNat : Int), .int .u8 (t.b.toNat : Int), .int .u8 (t.c.toNat : Int), .int .u8 (t.d.toNat : Int), .int .u8 (t.e.toNat : Int), .int .u8 (t.f.toNat : Int)] 24)) (.cells #[.int .u8 (o.a.toNat : Int), .int .u8 (o.b.toNat : Int), .int .u8 (o.c.toNat : Int), .int .u8 (o.d.toNat : Int), .int .u8 (o.e.toNat : Int), .int .u8 (o.f.toNat : Int)] 24)) (fun h => h)
      simp only [World.size_alloc] at this
      exact this
    · have := heap_alloc_new ((w.alloc (.cells #[.int .u8 (t.a.toNat : Int), .int .u8 (t.b.toNat : Int), .int .u8 (t.c.toNat : Int), .int .u8 (t.d.toNat : Int), .int .u8 (t.e.toNat : Int), .int .u8 (t.f.toNat : Int)] 24)).alloc (.cells #[.int .u8 (o.a.toNat : Int), .int .u8 (o.b.toNat : Int), .int .u8 (o.c.toNat : Int), .int .u8 (o.d.toNat : Int), .int .u8 (o.e.toNat : Int), .int .u8 (o.f.toNat : Int)] 24)) (.cells (List.replicate 60 (.int .u8 0)).toArray 5)
      simp only [World.size_alloc] at this
      exact this
  have HST := Lib.hid hst
  clear hst
  go_loopw [6] (fun t6 wr => ∃ (k : Nat), k ≤ 6 ∧ t6 = .int .i64 k ∧ FrI w 0 t o k wr) (fun t6 _ => 6 - (intOf t6).toNat)
  case atStart => exact ⟨0, by omega, rfl, HST.out⟩
  case round =>
    obtain ⟨k, hk, rfl, hi⟩ := hrel
    have HI := Lib.hid hi
    have c0 : ∀ i v, (encM t)[i]? = some v → wr.cell? ⟨w.heap.size, i, none⟩ = some v := fun i v h => by rw [cell_of_row wr _ i _ _ _ HI.out.to_]; simpa using h
    have c1 : ∀ i v, (encM o)[i]? = some v → wr.cell? ⟨w.heap.size + 1, i, none⟩ = some v := fun i v h => by rw [cell_of_row wr _ i _ _ _ HI.out.of_]; simpa using h
    have c2 : ∀ i v, (frC t o k)[i]? = some v → wr.cell? ⟨w.heap.size + 2, i, none⟩ = some v := fun i v h => by rw [cell_of_row wr _ i _ _ _ HI.out.row]; simpa using h
    have z2 : ∀ i, wr.frozen? ⟨w.heap.size + 2, i, none⟩ = false := fun i => frozen_of_row wr _ i _ _ HI.out.row
    clear hi
    by_cases hlt : k < 6
    · have hk6 : k = 0 ∨ k = 1 ∨ k = 2 ∨ k = 3 ∨ k = 4 ∨ k = 5 := by omega
      rcases hk6 with rfl | rfl | rfl | rfl | rfl | rfl
      · have u0 := c0 0 (.int .u8 (t.a.toNat : Int)) rfl
        have u1 := c1 0 (.int .u8 (o.a.toNat : Int)) rfl
        have u2 := c2 0 _ rfl
        have u3 := c2 6 _ rfl
        have z3 := z2 0
        have z4 := z2 6
        have hs := HI.out.step (v1 := .int .u8 (t.a.toNat : Int)) (v2 := .int .u8 (o.a.toNat : Int)) rfl
        have HS := Lib.hid hs
        clear c0 c1 c2 z2 hs
        go_wp2_with fail
        go_roundw
        case rel => exact ⟨1, by omega, by go_num, HS.out⟩
        case measure => simp [intOf]
      · have u0 := c0 1 (.int .u8 (t.b.toNat : Int)) rfl
        have u1 := c1 1 (.int .u8 (o.b.toNat : Int)) rfl
        have u2 := c2 1 _ rfl
        have u3 := c2 7 _ rfl
        have z3 := z2 1
        have z4 := z2 7
        have hs := HI.out.step (v1 := .int .u8 (t.b.toNat : Int)) (v2 := .int .u8 (o.b.toNat : Int)) rfl
        have HS := Lib.hid hs
        clear c0 c1 c2 z2 hs
        go_wp2_with fail
        go_roundw
        case rel => exact ⟨2, by omega, by go_num, HS.out⟩
        case measure => simp [intOf]
      · have u0 := c0 2 (.int .u8 (t.c.toNat : Int)) rfl
        have u1 := c1 2 (.int .u8 (o.c.toNat : Int)) rfl
        have u2 := c2 2 _ rfl
        have u3 := c2 8 _ rfl
        have z3 := z2 2
        have z4 := z2 8
        have hs := HI.out.step (v1 := .int .u8 (t.c.toNat : Int)) (v2 := .int .u8 (o.c.toNat : Int)) rfl
        have HS := Lib.hid hs
        clear c0 c1 c2 z2 hs
        go_wp2_with fail
        go_roundw
        case rel => exact ⟨3, by omega, by go_num, HS.out⟩
        case measure => simp [intOf]
      · have u0 := c0 3 (.int .u8 (t.d.toNat : Int)) rfl
        have u1 := c1 3 (.int .u8 (o.d.toNat : Int)) rfl
        have u2 := c2 3 _ rfl
        have u3 := c2 9 _ rfl
        have z3 := z2 3
        have z4 := z2 9
        have hs := HI.out.step (v1 := .int .u8 (t.d.toNat : Int)) (v2 := .int .u8 (o.d.toNat : Int)) rfl
        have HS := Lib.hid hs
        clear c0 c1 c2 z2 hs
        go_wp2_with fail
        go_roundw
        case rel => exact ⟨4, by omega, by go_num, HS.out⟩
        case measure => simp [intOf]
      · have u0 := c0 4 (.int .u8 (t.e.toNat : Int)) rfl
        have u1 := c1 4 (.int .u8 (o.e.toNat : Int)) rfl
        have u2 := c2 4 _ rfl
        have u3 := c2 10 _ rfl
        have z3 := z2 4
        have z4 := z2 10
        have hs := HI.out.step (v1 := .int .u8 (t.e.toNat : Int)) (v2 := .int .u8 (o.e.toNat : Int)) rfl
        have HS := Lib.hid hs
        clear c0 c1 c2 z2 hs
        go_wp2_with fail
        go_roundw
        case rel => exact ⟨5, by omega, by go_num, HS.out⟩
        case measure => simp [intOf]
      · have u0 := c0 5 (.int .u8 (t.f.toNat : Int)) rfl
        have u1 := c1 5 (.int .u8 (o.f.toNat : Int)) rfl
        have u2 := c2 5 _ rfl
        have u3 := c2 11 _ rfl
        have z3 := z2 5
        have z4 := z2 11
        have hs := HI.out.step (v1 := .int .u8 (t.f.toNat : Int)) (v2 := .int .u8 (o.f.toNat : Int)) rfl
        have HS := Lib.hid hs
        clear c0 c1 c2 z2 hs
        go_wp2_with fail
        go_roundw
        case rel => exact ⟨6, by omega, by go_num, HS.out⟩
        case measure => simp [intOf]
    · obtain rfl : k = 6 := by omega
      clear c0 c1 c2 z2
      go_wp2_with fail
      go_ret
      exact ⟨w.heap.size + 2, rfl, OB.bs (e := 5) ⟨rfl, ⟨by rfl, Nat.le_refl _, by omega, (fun h => by cases h), fun a ha => by cases ha; exact ⟨rfl, _, HI.out.row, by rfl, by rfl⟩⟩⟩, HI.out.fr, by omega⟩
end Go.Proofs.YticebdoiahadoaaDoor
namespace Go.Proofs.YticebdoiahadoaaDoor
open Go.RowKit
set_option linter.unusedVariables false
set_option linter.unusedSimpArgs false
def BrZ (Z : Nat → Prop) (w : World) (bb : Nat) (room life : Int) (X : AB) : Prop := (∀ k, Z k → k < w.heap.size) ∧ ∃ B : BrM, B.bb = bb ∧ BrAt w room life B X ∧ ∀ i, B.all i → ¬ Z i
def NZ (Z : Nat → Prop) : Nat → Prop := fun k => ¬ Z k
theorem BrZ.no {Z : Nat → Prop} {w w' : World} {bb : Nat} {room life : Int} {X : AB} (h : BrZ Z w bb room life X) (hf : Fr No w w') : BrZ Z w' bb room life X := by
  obtain ⟨h0, B, h1, h2, h3⟩ := h
  exact ⟨fun k hk => Nat.lt_of_lt_of_le (h0 k hk) hf.size, B, h1, h2.no hf, h3⟩
theorem BrZ.less {Z Z' : Nat → Prop} {w : World} {bb : Nat} {room life : Int} {X : AB} (h : BrZ Z w bb room life X) (hz : ∀ k, Z' k → Z k) : BrZ Z' w bb room life X := by
  obtain ⟨h0, B, h1, h2, h3⟩ := h
  exact ⟨fun k hk => h0 k (hz k hk), B, h1, h2, fun i hi hk => h3 i hi (hz i hk)⟩
/-- Behind new blocks: they are off too. -/
theorem BrZ.more {Z : Nat → Prop} {w w' : World} {bb : Nat} {room life : Int} {X : AB} (h : BrZ Z w bb room life X) (hf : Fr No w w') : BrZ (fun k => Z k ∨ (w.heap.size ≤ k ∧ k < w'.heap.size)) w' bb room life X := by
  obtain ⟨h0, B, h1, h2, h3⟩ := h
  refine ⟨fun k hk => ?_, B, h1, h2.no hf, fun i hi hk => ?_⟩
  · rcases hk with hk | hk
    · exact Nat.lt_of_lt_of_le (h0 k hk) hf.size
    · exact hk.2
  · rcases hk with hk | hk
    · exact h3 i hi hk
    · have := h2.lt hi; omega
/-- A write into a block that is off. -/
theorem BrZ.wr {Z : Nat → Prop} {w w' : World} {bb : Nat} {room life : Int} {X : AB} (h : BrZ Z w bb room life X) (hf : Fr Z w w') : BrZ Z w' bb room life X := by
  obtain ⟨h0, B, h1, h2, h3⟩ := h
  exact ⟨fun k hk => Nat.lt_of_lt_of_le (h0 k hk) hf.size, B, h1, h2.fr hf h3, h3⟩
theorem BrZ.out {Z : Nat → Prop} {w w' : World} {B : BrM} {room life : Int} {X' : AB} (h0 : ∀ k, Z k → k < w.heap.size) (h3 : ∀ i, B.all i → ¬ Z i) (h : BrOut w B room life X' w') : BrZ Z w' B.bb room life X' ∧ Fr (NZ Z) w w' := by
  obtain ⟨B', b1, s1, f1⟩ := h
  refine ⟨⟨fun k hk => Nat.lt_of_lt_of_le (h0 k hk) f1.size, B', s1.bb, b1, fun i hi hz => ?_⟩, f1.mono (fun k _ hk => h3 k hk)⟩
  rcases s1.all i hi with h4 | h4
  · exact h3 i h4 hz
  · have := h0 i hz; omega
def OneZ (Z : Nat → Prop) (w : World) (bb : Nat) (room life : Int) (c : Int) (X' : AB) (e : Ending) (w' : World) : Prop := e = .returned (.int .i64 c) ∧ BrZ Z w' bb room life X' ∧ Fr (NZ Z) w w'
theorem bgBind_z {Z : Nat → Prop} {w : World} {bb : Nat} {room life : Int} {X : AB} (h : BrZ Z w bb room life X) {p t : Int} (hp : okI p) {c : Int} {X' : AB} (hr : aBind X p t = (c, X')) :
    Calls Tryd.prog 7 #[.pointer (some ⟨bb, 0, none⟩), .int .i64 p, .int .i64 t] w (OneZ Z w bb room life c X') := by
  obtain ⟨h0, B, rfl, h2, h3⟩ := h
  exact (bgBind_any h2 hp hr).mono fun e w' hh => ⟨hh.1, BrZ.out h0 h3 hh.2⟩
theorem bgUnbind_z {Z : Nat → Prop} {w : World} {bb : Nat} {room life : Int} {X : AB} (h : BrZ Z w bb room life X) {p : Int} (hp : okI p) {c : Int} {X' : AB} (hr : aUnbind X p = (c, X')) :
    Calls Tryd.prog 15 #[.pointer (some ⟨bb, 0, none⟩), .int .i64 p] w (OneZ Z w bb room life c X') := by
  obtain ⟨h0, B, rfl, h2, h3⟩ := h
  exact (bgUnbind_any h2 hp hr).mono fun e w' hh => ⟨hh.1, BrZ.out h0 h3 hh.2⟩
theorem bgPeer_z {Z : Nat → Prop} {w : World} {bb : Nat} {room life : Int} {X : AB} (h : BrZ Z w bb room life X) {n t : Int} (ht : okI t) {c : Int} {X' : AB} (hr : aPeer X n t = (c, X')) :
    Calls Tryd.prog 8 #[.pointer (some ⟨bb, 0, none⟩), .int .i64 n, .int .i64 t] w (OneZ Z w bb room life c X') := by
  obtain ⟨h0, B, rfl, h2, h3⟩ := h
  exact (bgPeer_any h2 ht.2 hr).mono fun e w' hh => ⟨hh.1, BrZ.out h0 h3 hh.2⟩
/-- Where a frame goes: its rows are off too. -/
def GoesZ (Z : Nat → Prop) (w : World) (bb : Nat) (room life : Int) (r : AOut × Int × AB) (e : Ending) (w' : World) : Prop :=
  ∃ po pc qo qc, e = .returned (.tuple #[.agg #[.slice po r.1.ps.length pc, .slice qo r.1.qs.length qc, .bool r.1.fl], .int .i64 r.2.1]) ∧ OI w' po r.1.ps.length pc r.1.ps ∧ OI w' qo r.1.qs.length qc r.1.qs ∧
    BrZ (fun k => Z k ∨ At po k ∨ At qo k) w' bb room life r.2.2 ∧ Fr (NZ Z) w w'
theorem GoesP.z {Z : Nat → Prop} {w w' : World} {B : BrM} {room life : Int} {r : AOut × Int × AB} {e : Ending} (h0 : ∀ k, Z k → k < w.heap.size) (h3 : ∀ i, B.all i → ¬ Z i) (h : GoesP w B room life r e w') : GoesZ Z w B.bb room life r e w' := by
  obtain ⟨B', po, pc, qo, qc, he, hp, hq, gp, gq, b1, s1, f1⟩ := h
  refine ⟨po, pc, qo, qc, he, hp, hq, ⟨fun k hk => ?_, B', s1.bb, b1, fun i hi hz => ?_⟩, f1.mono (fun k _ hk => h3 k hk)⟩
  · rcases hk with hk | ⟨a, ha, rfl⟩ | ⟨a, ha, rfl⟩
    · exact Nat.lt_of_lt_of_le (h0 k hk) f1.size
    · exact hp.2.lt a ha
    · exact hq.2.lt a ha
  · rcases hz with hz | ⟨a, ha, rfl⟩ | ⟨a, ha, rfl⟩
    · rcases s1.all i hi with h4 | h4
      · exact h3 i h4 hz
      · have := h0 i hz; omega
    · exact (gp a ha).2 hi
    · exact (gq a ha).2 hi
theorem bgFromPort_z {Z : Nat → Prop} {w : World} {bb : Nat} {room life : Int} {X : AB} (h : BrZ Z w bb room life X) {p : Int} (hp : okI p) {ao : Option Addr} {n cap : Nat} {bs : List UInt8} (hb : Bs w ao n cap bs) {now : Int} (hn0 : 0 ≤ now) (hn1 : now < 18446744073709551616) {r : AOut × Int × AB} (hr : aFromPort room life X p bs now = r) :
    Calls Tryd.prog 11 #[.pointer (some ⟨bb, 0, none⟩), .int .i64 p, .slice ao n cap, .int .u64 now] w (GoesZ Z w bb room life r) := by
  obtain ⟨h0, B, rfl, h2, h3⟩ := h
  exact (bgFromPort_any h2 hp hb hn0 hn1 hr).mono fun e w' hh => hh.z h0 h3
theorem bgFromTunnel_z {Z : Nat → Prop} {w : World} {bb : Nat} {room life : Int} {X : AB} (h : BrZ Z w bb room life X) {i t : Int} (ht : okI t) {ao : Option Addr} {n cap : Nat} {bs : List UInt8} (hb : Bs w ao n cap bs) {now : Int} (hn0 : 0 ≤ now) (hn1 : now < 18446744073709551616) {r : AOut × Int × AB} (hr : aFromTunnel room life X i t bs now = r) :
    Calls Tryd.prog 9 #[.pointer (some ⟨bb, 0, none⟩), .int .i64 i, .int .i64 t, .slice ao n cap, .int .u64 now] w (GoesZ Z w bb room life r) := by
  obtain ⟨h0, B, rfl, h2, h3⟩ := h
  exact (bgFromTunnel_any h2 ht hb hn0 hn1 hr).mono fun e w' hh => hh.z h0 h3
theorem bgBase_z {Z : Nat → Prop} {w : World} {bb : Nat} {room life : Int} {X : AB} (h : BrZ Z w bb room life X) {n : Int} (hn : okSeg n) :
    Calls Tryd.prog 6 #[.pointer (some ⟨bb, 0, none⟩), .int .i64 n] w fun e w' => (∃ tb, e = .returned (.pointer (some ⟨tb, 0, none⟩))) ∧ w = w' := by
  obtain ⟨h0, B, rfl, h2, h3⟩ := h
  exact (bgBase_in h2 hn).mono fun e w' hh => ⟨⟨_, hh.1⟩, hh.2⟩
/-- A bridge is new: it keeps off all that was. -/
theorem bgNew_z (w : World) (room life : Int) (hl0 : 0 ≤ life) (hl1 : life < 18446744073709551616) {rm : Int} (hrm : min (max room 1) 64 = rm) :
    Calls Tryd.prog 5 #[.int .i64 room, .int .u64 life] w fun e w' => ∃ bb, e = .returned (.pointer (some ⟨bb, 0, none⟩)) ∧ BrZ (fun k => k < w.heap.size) w' bb rm life AB.new ∧ Fr No w w' :=
  (bgNew_any w room life hl0 hl1 hrm).mono fun e w' hh => by
    obtain ⟨B, he, h1, h2, h3⟩ := hh
    exact ⟨B.bb, he, ⟨fun k hk => Nat.lt_of_lt_of_le hk h3.size, B, rfl, h1, fun i hi hk => by have := h2 i hi; omega⟩, h3⟩
end Go.Proofs.YticebdoiahadoaaDoor
namespace Go.Proofs.YticebdoiahadoaaDoor
open Go.RowKit
set_option linter.unusedVariables false
set_option linter.unusedSimpArgs false
def shM4 : Mac := ⟨4, 0, 0, 0, 0, 0⟩
def shM2 : Mac := ⟨2, 0, 0, 0, 0, 0⟩
def shX1 : AB := (aBind AB.new 1 0).2
def shX2 : AB := (aBind shX1 2 0).2
def shX3 : AB := (aBind shX2 3 1).2
def shX4 : AB := (aPeer shX3 0 5).2
def shX5 : AB := (aFromPort 8 100 shX4 1 (frB shM4 shM2) 1).2.2
def shX6 : AB := (aFromTunnel 8 100 shX5 0 5 (frB shM2 shM4) 2).2.2
def shX7 : AB := (aFromPort 8 100 shX6 1 (frB shM4 shM2) 3).2.2
theorem sh1 : aBind AB.new 1 0 = (0, shX1) := by rfl
theorem sh2 : aBind shX1 2 0 = (0, shX2) := by rfl
theorem sh3 : aBind shX2 3 1 = (0, shX3) := by rfl
theorem sh4 : aPeer shX3 0 5 = (0, shX4) := by rfl
theorem sh5 : aFromPort 8 100 shX4 1 (frB shM4 shM2) 1 = (⟨[2], [5], true⟩, 0, shX5) := by kernel_rfl
theorem sh6 : aFromTunnel 8 100 shX5 0 5 (frB shM2 shM4) 2 = (⟨[1], [], false⟩, 0, shX6) := by kernel_rfl
theorem sh7 : aFromPort 8 100 shX6 1 (frB shM4 shM2) 3 = (⟨[], [5], false⟩, 0, shX7) := by kernel_rfl
theorem sh8 : aFromPort 8 100 shX7 9 (frB shM4 shM2) 3 = (noOut, 6, shX7) := by kernel_rfl
theorem OI.one_cell {w : World} {ao : Option Addr} {c : Nat} {z : Int} (h : OI w ao 1 c [z]) : ∃ g, ao = some ⟨g, 0, none⟩ ∧ w.cell? ⟨g, 0, none⟩ = some (.int .i64 z) := by
  cases ao with
  | none =>
    have h1 := h.2.nocap rfl
    have h2 := h.2.le
    omega
  | some a =>
    obtain ⟨h1, -⟩ := h.2.row a rfl
    have h2 := h.sl.2.cell a rfl 0 (.int .i64 z) rfl
    obtain ⟨b, o, sp⟩ := a
    cases h1
    exact ⟨b, rfl, by rwa [Addr.add_lit] at h2⟩
theorem BrZ.box {Z : Nat → Prop} {w : World} {bb : Nat} {room life : Int} {X : AB} {po qo : Option Addr} (h : BrZ (fun k => Z k ∨ At po k ∨ At qo k) w bb room life X) (o : Obj) :
    ∃ Z', BrZ Z' (w.alloc o) bb room life X ∧ (∀ k, Z k → Z' k) ∧ (∀ a, po = some a → Z' a.block) ∧ (∀ a, qo = some a → Z' a.block) ∧ Z' w.heap.size :=
  ⟨_, h.more ((Fr.refl No w).alloc o), fun k hk => .inl (.inl hk), fun a ha => .inl (.inr (.inl ⟨a, ha, rfl⟩)), fun a ha => .inl (.inr (.inr ⟨a, ha, rfl⟩)), .inr ⟨Nat.le_refl _, by simp⟩⟩
set_option maxRecDepth 100000 in
set_option maxHeartbeats 4000000 in
theorem l16shown_any (w : World) : Calls Tryd.prog 4 #[] w fun e w' => e = .returned (.bool true) ∧ Fr No w w' := by
  go_enter Tryd.func4, Tryd.ntmps4
  go_wp2_with fail
  refine (bgNew_z w 8 100 (by omega) (by omega) (rm := 8) (by decide)).mono ?_
  rintro e w1 ⟨bb, rfl, h1, f1⟩
  obtain ⟨Z, hz⟩ : ∃ Z : Nat → Prop, (fun k => k < w.heap.size) = Z := ⟨_, rfl⟩
  have ZW := Lib.hid (fun i (hi : i < w.heap.size) => show Z i by rw [← hz]; exact hi)
  rw [hz] at h1
  clear hz
  have H := Lib.hid h1
  have FF := Lib.hid f1
  clear h1 f1
  go_wp2_with fail
  refine (bgBase_z H.out (n := 0) (by decide)).mono ?_
  rintro e w1' ⟨⟨tb, rfl⟩, rfl⟩
  go_wp2_with fail
  refine (bgBind_z H.out (p := 1) (t := 0) ⟨by omega, by omega⟩ sh1).mono ?_
  rintro e w2 ⟨rfl, h2, f2⟩
  have FF := Lib.hid (FF.out.then f2 (fun i hi h => h (ZW.out i hi)))
  have H := Lib.hid h2
  clear h2 f2
  go_wp2_with fail
  refine (bgBind_z H.out (p := 2) (t := 0) ⟨by omega, by omega⟩ sh2).mono ?_
  rintro e w2 ⟨rfl, h2, f2⟩
  have FF := Lib.hid (FF.out.then f2 (fun i hi h => h (ZW.out i hi)))
  have H := Lib.hid h2
  clear h2 f2
  go_wp2_with fail
  refine (bgBind_z H.out (p := 3) (t := 1) ⟨by omega, by omega⟩ sh3).mono ?_
  rintro e w2 ⟨rfl, h2, f2⟩
  have FF := Lib.hid (FF.out.then f2 (fun i hi h => h (ZW.out i hi)))
  have H := Lib.hid h2
  clear h2 f2
  go_wp2_with fail
  refine (bgPeer_z H.out (n := 0) (t := 5) ⟨by omega, by omega⟩ sh4).mono ?_
  rintro e w2 ⟨rfl, h2, f2⟩
  have FF := Lib.hid (FF.out.then f2 (fun i hi h => h (ZW.out i hi)))
  have H := Lib.hid h2
  clear h2 f2
  go_wp2_with fail
  refine (l16frame_any shM4 shM2 _).mono ?_
  rintro e w3 ⟨g3, rfl, hb3, f3, -⟩
  have H := Lib.hid (H.out.no f3)
  have FF := Lib.hid (FF.out.trans f3)
  have HB := Lib.hid hb3
  clear hb3 f3
  go_wp2_with fail
  refine (bgFromPort_z H.out (p := 1) ⟨by omega, by omega⟩ HB.out (now := 1) (by omega) (by omega) sh5).mono ?_
  rintro e w4 ⟨po5, pc5, qo5, qc5, rfl, cp, cq, h4, f4⟩
  clear HB
  have FF := Lib.hid (FF.out.then f4 (fun i hi h => h (ZW.out i hi)))
  dsimp only [noOut] at cp cq h4 ⊢
  simp only [List.length_cons, List.length_nil, Nat.zero_add] at cp cq ⊢
  obtain ⟨gp5, rfl, -⟩ := cp.one_cell
  obtain ⟨gq5, rfl, -⟩ := cq.one_cell
  obtain ⟨Z2, h5, z1, z2, z3, z4⟩ := h4.box (.cells #[.slice (some ⟨gp5, 0, none⟩) 1 pc5, .slice (some ⟨gq5, 0, none⟩) 1 qc5, .bool true] 37)
  have fa := (Fr.refl No w4).alloc (.cells #[.slice (some ⟨gp5, 0, none⟩) 1 pc5, .slice (some ⟨gq5, 0, none⟩) 1 qc5, .bool true] 37)
  have hn := heap_alloc_new w4 (.cells #[.slice (some ⟨gp5, 0, none⟩) 1 pc5, .slice (some ⟨gq5, 0, none⟩) 1 qc5, .bool true] 37)
  have ZW := Lib.hid (fun i (hi : i < w.heap.size) => z1 i (ZW.out i hi))
  have CP5 := Lib.hid (cp.no fa)
  have ZP5 := Lib.hid z2
  have CQ5 := Lib.hid (cq.no fa)
  have ZQ5 := Lib.hid z3
  have RB5 := Lib.hid hn
  have ZB5 := Lib.hid z4
  have H := Lib.hid h5
  have FF := Lib.hid (FF.out.trans fa)
  clear cp cq h4 f4 h5 z1 z2 z3 z4 fa hn
  go_wp2_with fail
  generalize World.alloc _ _ = wz at RB5 H FF  CP5 CQ5 ⊢
  generalize w4.heap.size = bk5 at RB5 ZB5 ⊢
  go_wp2_with fail
  refine (l16frame_any shM2 shM4 _).mono ?_
  rintro e w3 ⟨g3, rfl, hb3, f3, -⟩
  have H := Lib.hid (H.out.no f3)
  have FF := Lib.hid (FF.out.trans f3)
  have RB5 := Lib.hid (f3.heap RB5.out (fun h => h))
  have CP5 := Lib.hid (CP5.out.no f3)
  have CQ5 := Lib.hid (CQ5.out.no f3)
  have HB := Lib.hid hb3
  clear hb3 f3
  go_wp2_with fail
  refine (bgFromTunnel_z H.out (i := 0) (t := 5) ⟨by omega, by omega⟩ HB.out (now := 2) (by omega) (by omega) sh6).mono ?_
  rintro e w4 ⟨po6, pc6, qo6, qc6, rfl, cp, cq, h4, f4⟩
  clear HB
  have FF := Lib.hid (FF.out.then f4 (fun i hi h => h (ZW.out i hi)))
  have RB5 := Lib.hid (f4.heap RB5.out (fun h => h ZB5.out))
  have CP5 := Lib.hid (CP5.out.fr f4 (fun a ha h => h (ZP5.out a ha)))
  have CQ5 := Lib.hid (CQ5.out.fr f4 (fun a ha h => h (ZQ5.out a ha)))
  dsimp only [noOut] at cp cq h4 ⊢
  simp only [List.length_cons, List.length_nil, Nat.zero_add] at cp cq ⊢
  obtain ⟨gp6, rfl, -⟩ := cp.one_cell
  obtain ⟨Z2, h5, z1, z2, z3, z4⟩ := h4.box (.cells #[.slice (some ⟨gp6, 0, none⟩) 1 pc6, .slice qo6 0 qc6, .bool false] 37)
  have fa := (Fr.refl No w4).alloc (.cells #[.slice (some ⟨gp6, 0, none⟩) 1 pc6, .slice qo6 0 qc6, .bool false] 37)
  have hn := heap_alloc_new w4 (.cells #[.slice (some ⟨gp6, 0, none⟩) 1 pc6, .slice qo6 0 qc6, .bool false] 37)
  have ZW := Lib.hid (fun i (hi : i < w.heap.size) => z1 i (ZW.out i hi))
  have RB5 := Lib.hid (fa.heap RB5.out (fun h => h))
  have ZB5 := Lib.hid (z1 _ ZB5.out)
  have CP5 := Lib.hid (CP5.out.no fa)
  have ZP5 := Lib.hid (fun a ha => z1 _ (ZP5.out a ha))
  have CQ5 := Lib.hid (CQ5.out.no fa)
  have ZQ5 := Lib.hid (fun a ha => z1 _ (ZQ5.out a ha))
  have CP6 := Lib.hid (cp.no fa)
  have ZP6 := Lib.hid z2
  have RB6 := Lib.hid hn
  have ZB6 := Lib.hid z4
  have H := Lib.hid h5
  have FF := Lib.hid (FF.out.trans fa)
  clear cp cq h4 f4 h5 z1 z2 z3 z4 fa hn
  go_wp2_with fail
  generalize World.alloc _ _ = wz at RB6 H FF RB5 CP5 CP6 CQ5 ⊢
  generalize w4.heap.size = bk6 at RB6 ZB6 ⊢
  go_wp2_with fail
  refine (l16frame_any shM4 shM2 _).mono ?_
  rintro e w3 ⟨g3, rfl, hb3, f3, -⟩
  have H := Lib.hid (H.out.no f3)
  have FF := Lib.hid (FF.out.trans f3)
  have RB5 := Lib.hid (f3.heap RB5.out (fun h => h))
  have CP5 := Lib.hid (CP5.out.no f3)
  have CQ5 := Lib.hid (CQ5.out.no f3)
  have RB6 := Lib.hid (f3.heap RB6.out (fun h => h))
  have CP6 := Lib.hid (CP6.out.no f3)
  have HB := Lib.hid hb3
  clear hb3 f3
  go_wp2_with fail
  refine (bgFromPort_z H.out (p := 1) ⟨by omega, by omega⟩ HB.out (now := 3) (by omega) (by omega) sh7).mono ?_
  rintro e w4 ⟨po7, pc7, qo7, qc7, rfl, cp, cq, h4, f4⟩
  clear HB
  have FF := Lib.hid (FF.out.then f4 (fun i hi h => h (ZW.out i hi)))
  have RB5 := Lib.hid (f4.heap RB5.out (fun h => h ZB5.out))
  have CP5 := Lib.hid (CP5.out.fr f4 (fun a ha h => h (ZP5.out a ha)))
  have CQ5 := Lib.hid (CQ5.out.fr f4 (fun a ha h => h (ZQ5.out a ha)))
  have RB6 := Lib.hid (f4.heap RB6.out (fun h => h ZB6.out))
  have CP6 := Lib.hid (CP6.out.fr f4 (fun a ha h => h (ZP6.out a ha)))
  dsimp only [noOut] at cp cq h4 ⊢
  simp only [List.length_cons, List.length_nil, Nat.zero_add] at cp cq ⊢
  obtain ⟨gq7, rfl, -⟩ := cq.one_cell
  obtain ⟨Z2, h5, z1, z2, z3, z4⟩ := h4.box (.cells #[.slice po7 0 pc7, .slice (some ⟨gq7, 0, none⟩) 1 qc7, .bool false] 37)
  have fa := (Fr.refl No w4).alloc (.cells #[.slice po7 0 pc7, .slice (some ⟨gq7, 0, none⟩) 1 qc7, .bool false] 37)
  have hn := heap_alloc_new w4 (.cells #[.slice po7 0 pc7, .slice (some ⟨gq7, 0, none⟩) 1 qc7, .bool false] 37)
  have ZW := Lib.hid (fun i (hi : i < w.heap.size) => z1 i (ZW.out i hi))
  have RB5 := Lib.hid (fa.heap RB5.out (fun h => h))
  have ZB5 := Lib.hid (z1 _ ZB5.out)
  have CP5 := Lib.hid (CP5.out.no fa)
  have ZP5 := Lib.hid (fun a ha => z1 _ (ZP5.out a ha))
  have CQ5 := Lib.hid (CQ5.out.no fa)
  have ZQ5 := Lib.hid (fun a ha => z1 _ (ZQ5.out a ha))
  have RB6 := Lib.hid (fa.heap RB6.out (fun h => h))
  have ZB6 := Lib.hid (z1 _ ZB6.out)
  have CP6 := Lib.hid (CP6.out.no fa)
  have ZP6 := Lib.hid (fun a ha => z1 _ (ZP6.out a ha))
  have CQ7 := Lib.hid (cq.no fa)
  have ZQ7 := Lib.hid z3
  have RB7 := Lib.hid hn
  have ZB7 := Lib.hid z4
  have H := Lib.hid h5
  have FF := Lib.hid (FF.out.trans fa)
  clear cp cq h4 f4 h5 z1 z2 z3 z4 fa hn
  go_wp2_with fail
  generalize World.alloc _ _ = wz at RB7 H FF RB5 RB6 CP5 CP6 CQ5 CQ7 ⊢
  generalize w4.heap.size = bk7 at RB7 ZB7 ⊢
  go_wp2_with fail
  refine (l16frame_any shM4 shM2 _).mono ?_
  rintro e w3 ⟨g3, rfl, hb3, f3, -⟩
  have H := Lib.hid (H.out.no f3)
  have FF := Lib.hid (FF.out.trans f3)
  have RB5 := Lib.hid (f3.heap RB5.out (fun h => h))
  have CP5 := Lib.hid (CP5.out.no f3)
  have CQ5 := Lib.hid (CQ5.out.no f3)
  have RB6 := Lib.hid (f3.heap RB6.out (fun h => h))
  have CP6 := Lib.hid (CP6.out.no f3)
  have RB7 := Lib.hid (f3.heap RB7.out (fun h => h))
  have CQ7 := Lib.hid (CQ7.out.no f3)
  have HB := Lib.hid hb3
  clear hb3 f3
  go_wp2_with fail
  refine (bgFromPort_z H.out (p := 9) ⟨by omega, by omega⟩ HB.out (now := 3) (by omega) (by omega) sh8).mono ?_
  rintro e w4 ⟨po8, pc8, qo8, qc8, rfl, cp, cq, h4, f4⟩
  clear HB
  have FF := Lib.hid (FF.out.then f4 (fun i hi h => h (ZW.out i hi)))
  have RB5 := Lib.hid (f4.heap RB5.out (fun h => h ZB5.out))
  have CP5 := Lib.hid (CP5.out.fr f4 (fun a ha h => h (ZP5.out a ha)))
  have CQ5 := Lib.hid (CQ5.out.fr f4 (fun a ha h => h (ZQ5.out a ha)))
  have RB6 := Lib.hid (f4.heap RB6.out (fun h => h ZB6.out))
  have CP6 := Lib.hid (CP6.out.fr f4 (fun a ha h => h (ZP6.out a ha)))
  have RB7 := Lib.hid (f4.heap RB7.out (fun h => h ZB7.out))
  have CQ7 := Lib.hid (CQ7.out.fr f4 (fun a ha h => h (ZQ7.out a ha)))
  dsimp only [noOut] at cp cq h4 ⊢
  simp only [List.length_cons, List.length_nil, Nat.zero_add] at cp cq ⊢
  obtain ⟨Z2, h5, z1, z2, z3, z4⟩ := h4.box (.cells #[.slice po8 0 pc8, .slice qo8 0 qc8, .bool false] 37)
  have fa := (Fr.refl No w4).alloc (.cells #[.slice po8 0 pc8, .slice qo8 0 qc8, .bool false] 37)
  have hn := heap_alloc_new w4 (.cells #[.slice po8 0 pc8, .slice qo8 0 qc8, .bool false] 37)
  have ZW := Lib.hid (fun i (hi : i < w.heap.size) => z1 i (ZW.out i hi))
  have RB5 := Lib.hid (fa.heap RB5.out (fun h => h))
  have ZB5 := Lib.hid (z1 _ ZB5.out)
  have CP5 := Lib.hid (CP5.out.no fa)
  have ZP5 := Lib.hid (fun a ha => z1 _ (ZP5.out a ha))
  have CQ5 := Lib.hid (CQ5.out.no fa)
  have ZQ5 := Lib.hid (fun a ha => z1 _ (ZQ5.out a ha))
  have RB6 := Lib.hid (fa.heap RB6.out (fun h => h))
  have ZB6 := Lib.hid (z1 _ ZB6.out)
  have CP6 := Lib.hid (CP6.out.no fa)
  have ZP6 := Lib.hid (fun a ha => z1 _ (ZP6.out a ha))
  have RB7 := Lib.hid (fa.heap RB7.out (fun h => h))
  have ZB7 := Lib.hid (z1 _ ZB7.out)
  have CQ7 := Lib.hid (CQ7.out.no fa)
  have ZQ7 := Lib.hid (fun a ha => z1 _ (ZQ7.out a ha))
  have FF := Lib.hid (FF.out.trans fa)
  obtain ⟨r50, r51, r52⟩ := cells3 RB5.out
  obtain ⟨gg, hgg, p50⟩ := CP5.out.one_cell
  cases hgg
  obtain ⟨gg, hgg, q50⟩ := CQ5.out.one_cell
  cases hgg
  obtain ⟨r60, r61, r62⟩ := cells3 RB6.out
  obtain ⟨gg, hgg, p60⟩ := CP6.out.one_cell
  cases hgg
  obtain ⟨r70, r71, r72⟩ := cells3 RB7.out
  obtain ⟨gg, hgg, q70⟩ := CQ7.out.one_cell
  cases hgg
  clear cp cq h4 f4 h5 z1 z2 z3 z4 hn fa
  go_wp2_with fail
  go_ret
  exact ⟨rfl, FF.out⟩
end Go.Proofs.YticebdoiahadoaaDoor
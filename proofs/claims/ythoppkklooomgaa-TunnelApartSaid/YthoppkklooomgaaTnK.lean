/- tunnel: take. -/
import Derived.Test.YthoppkklooomgaaTnE
namespace Go.Proofs.Ythoppkklooomgaa
open Go.RowKit
set_option linter.unusedVariables false
set_option linter.unusedSimpArgs false
/-- What vxlan.Decap answers. -/
def VxPost (w : World) : VxRes → Ending → World → Prop
  | .ok id fs, e, w' => VxOk w (id : Int) fs.length fs e w'
  | .no i c, e, w' => VxNo w (vxlanS :: inS i) c e w'
theorem vx_dec {w : World} {ao : Option Addr} {n cap : Nat} {bs : List UInt8} (hb : Bs w ao n cap bs) (hn : n ≤ big) : Calls Try.prog 43 #[.slice ao n cap] w (VxPost w (vxDec bs)) := by
  have h1 := hb.1
  unfold vxDec
  rw [← h1]
  by_cases h8 : n < 8
  · rw [if_pos h8]; exact vxDecap_head hb h8
  rw [if_neg h8]
  cases hk : known bs with
  | false => rw [if_pos rfl]; exact vxDecap_form hb (by omega) hn hk
  | true =>
    rw [if_neg (by simp)]
    by_cases h22 : n < 22
    · rw [if_pos h22]; exact vxDecap_size hb (by omega) hn hk 2 (.inl ⟨h22, rfl⟩)
    rw [if_neg h22]
    by_cases h98 : 9008 < n
    · rw [if_pos h98]; exact vxDecap_size hb (by omega) hn hk 7 (.inr ⟨h98, rfl⟩)
    rw [if_neg h98]
    refine vxDecap_ok hb (by omega) (by omega) hk (i := ((be ((bs.drop 4).take 4) / 256 : Nat) : Int)) (by omega) rfl ?_
    rw [List.length_drop, ← h1]

def TnTook (w : World) (r : TkR) (e : Ending) (w' : World) : Prop :=
  Fr No w w' ∧ match r with
  | .ok kind id keyed os seqed seq fs => ∃ (oo : Option Addr) (on oc : Nat) (ad : List (Option Addr × Nat)) (g gc : Nat),
      e = .returned (.tuple #[.agg #[.int .i64 kind, .int .u32 (id : Int), .bool keyed, .slice oo on oc, .bool seqed, .int .u32 (seq : Int), .slice (some ⟨g, 0, none⟩) fs.length gc], .nilIface]) ∧
      Ro (Up w.heap.size) w' oo on oc os ad ∧ OB w' 5 (some ⟨g, 0, none⟩) fs.length gc fs ∧ w.heap.size ≤ g
  | .no ls n => ∃ (k : Int) (b : Bool) (v : Value), e = .returned (.tuple #[.agg #[.int .i64 k, .int .u32 0, .bool b, .slice none 0 0, .bool false, .int .u32 0, .slice none 0 0], v]) ∧ Err w' v ls n
theorem ttypes : 113 ≠ 109 := by decide
theorem cells7 {w : World} {b t : Nat} {c0 c1 c2 c3 c4 c5 c6 : Value} {f : Nat × Nat} (h : w.heap[b]? = some (.cells #[c0, c1, c2, c3, c4, c5, c6] t f)) :
    w.cell? ⟨b, 0, none⟩ = some c0 ∧ w.cell? ⟨b, 1, none⟩ = some c1 ∧ w.cell? ⟨b, 2, none⟩ = some c2 ∧ w.cell? ⟨b, 3, none⟩ = some c3 ∧ w.cell? ⟨b, 4, none⟩ = some c4 ∧ w.cell? ⟨b, 5, none⟩ = some c5 ∧ w.cell? ⟨b, 6, none⟩ = some c6 := by
  refine ⟨?_, ?_, ?_, ?_, ?_, ?_, ?_⟩ <;> (rw [cell_of_row w b _ _ _ _ h]; rfl)
theorem put7 {w : World} {b t : Nat} {c0 c1 c2 c3 c4 c5 c6 : Value} (h : w.heap[b]? = some (.cells #[c0, c1, c2, c3, c4, c5, c6] t (0, 0))) (v0 v1 v2 v3 v4 v5 v6 : Value) :
    (((((((w.setCell ⟨b, 0, none⟩ v0).setCell ⟨b, 1, none⟩ v1).setCell ⟨b, 2, none⟩ v2).setCell ⟨b, 3, none⟩ v3).setCell ⟨b, 4, none⟩ v4).setCell ⟨b, 5, none⟩ v5).setCell ⟨b, 6, none⟩ v6).heap[b]? = some (.cells #[v0, v1, v2, v3, v4, v5, v6] t (0, 0)) ∧
    Fr (Is b) w (((((((w.setCell ⟨b, 0, none⟩ v0).setCell ⟨b, 1, none⟩ v1).setCell ⟨b, 2, none⟩ v2).setCell ⟨b, 3, none⟩ v3).setCell ⟨b, 4, none⟩ v4).setCell ⟨b, 5, none⟩ v5).setCell ⟨b, 6, none⟩ v6) := by
  refine ⟨?_, ((((((((Fr.refl (Is b) w).setCell (p := ⟨b, 0, none⟩) (.inl (show b = b from rfl)) v0).setCell (p := ⟨b, 1, none⟩) (.inl (show b = b from rfl)) v1).setCell (p := ⟨b, 2, none⟩) (.inl (show b = b from rfl)) v2).setCell (p := ⟨b, 3, none⟩) (.inl (show b = b from rfl)) v3).setCell (p := ⟨b, 4, none⟩) (.inl (show b = b from rfl)) v4).setCell (p := ⟨b, 5, none⟩) (.inl (show b = b from rfl)) v5).setCell (p := ⟨b, 6, none⟩) (.inl (show b = b from rfl)) v6)⟩
  have h0 := set_row (cs' := #[v0, c1, c2, c3, c4, c5, c6]) h 0 v0 (by simp)
  have h1 := set_row (cs' := #[v0, v1, c2, c3, c4, c5, c6]) h0 1 v1 (by simp)
  have h2 := set_row (cs' := #[v0, v1, v2, c3, c4, c5, c6]) h1 2 v2 (by simp)
  have h3 := set_row (cs' := #[v0, v1, v2, v3, c4, c5, c6]) h2 3 v3 (by simp)
  have h4 := set_row (cs' := #[v0, v1, v2, v3, v4, c5, c6]) h3 4 v4 (by simp)
  have h5 := set_row (cs' := #[v0, v1, v2, v3, v4, v5, c6]) h4 5 v5 (by simp)
  exact set_row (cs' := #[v0, v1, v2, v3, v4, v5, v6]) h5 6 v6 (by simp)
/-- A packet that is read. -/
structure PkRd (w : World) (p : Pk) (bo : Option Addr) (bn bc : Nat) : Prop where
  b : Bs w bo bn bc p.b
  le : bn ≤ 20000
  src : p.src < 4294967296
  dst : p.dst < 4294967296

set_option maxRecDepth 100000 in
set_option maxHeartbeats 1600000 in
theorem tnTake_none {w : World} {p : Pk} {bo : Option Addr} {bn bc : Nat} (h : PkRd w p bo bn bc) (h1 : ¬ (p.proto = 17 ∧ p.dport = 4789)) (h2 : ¬ (p.proto = 17 ∧ p.dport = 6081)) (h3 : p.proto ≠ 47) :
    Calls Try.prog 25 #[.agg #[.int .u32 (p.src : Int), .int .u32 (p.dst : Int), .int .u8 (p.proto : Int), .int .u16 (p.sport : Int), .int .u16 (p.dport : Int), .slice bo bn bc]] w (TnTook w (.no [] 12)) := by
  have f1 := ((Fr.refl No w).alloc (.cells #[.int .u32 (p.src : Int), .int .u32 (p.dst : Int), .int .u8 (p.proto : Int), .int .u16 (p.sport : Int), .int .u16 (p.dport : Int), .slice bo bn bc] 41)).alloc (.cells #[.int .i64 0, .int .u32 0, .bool false, .slice none 0 0, .bool false, .int .u32 0, .slice none 0 0] 83)
  have F1 := Lib.hid f1
  have X1 := Lib.hid (((Fr.refl No _).alloc (.cells #[.int .i64 0, .int .u32 0, .bool false, .slice none 0 0, .bool false, .int .u32 0, .slice none 0 0] 83)).heap (heap_alloc_new w (.cells #[.int .u32 (p.src : Int), .int .u32 (p.dst : Int), .int .u8 (p.proto : Int), .int .u16 (p.sport : Int), .int .u16 (p.dport : Int), .slice bo bn bc] 41)) (fun h => h))
  have Y1 := Lib.hid (heap_alloc_new (w.alloc (.cells #[.int .u32 (p.src : Int), .int .u32 (p.dst : Int), .int .u8 (p.proto : Int), .int .u16 (p.sport : Int), .int .u16 (p.dport : Int), .slice bo bn bc] 41)) (.cells #[.int .i64 0, .int .u32 0, .bool false, .slice none 0 0, .bool false, .int .u32 0, .slice none 0 0] 83))
  rw [show (w.alloc (.cells #[.int .u32 (p.src : Int), .int .u32 (p.dst : Int), .int .u8 (p.proto : Int), .int .u16 (p.sport : Int), .int .u16 (p.dport : Int), .slice bo bn bc] 41)).heap.size = w.heap.size + 1 by simp] at Y1
  have hz1 : ((w.alloc (.cells #[.int .u32 (p.src : Int), .int .u32 (p.dst : Int), .int .u8 (p.proto : Int), .int .u16 (p.sport : Int), .int .u16 (p.dport : Int), .slice bo bn bc] 41)).alloc (.cells #[.int .i64 0, .int .u32 0, .bool false, .slice none 0 0, .bool false, .int .u32 0, .slice none 0 0] 83)).heap.size = w.heap.size + 2 := by simp
  have HB := Lib.hid h.b
  have HLE := Lib.hid h.le
  have hbe := h.b.2.le
  have hbf := h.b.2.capLe
  clear h f1
  obtain ⟨pr, hpr⟩ : ∃ pr, pr = p.proto := ⟨_, rfl⟩
  obtain ⟨dp, hdp⟩ : ∃ dp, dp = p.dport := ⟨_, rfl⟩
  rw [← hpr, ← hdp] at h1 h2
  rw [← hpr] at h3
  rw [← hpr, ← hdp] at X1 Y1 F1 hz1 ⊢
  have q3 : ((pr : Int) == 47) = false := by simp; omega
  clear hpr hdp
  by_cases k : pr = 17
  · subst k
    have q1 : ((dp : Int) == 4789) = false := by simp; omega
    have q2 : ((dp : Int) == 6081) = false := by simp; omega
    clear h1 h2 h3 q3
    go_enter Try.func25, Try.ntmps25
    go_upto_region 2 with fail
    generalize (w.alloc _).alloc _ = w1 at *
    obtain ⟨x0, x1, x2, x3, x4, x5⟩ := cells6' X1.out
    obtain ⟨d0, d1, d2, d3, d4, d5, d6⟩ := cells7 Y1.out
    have z := fun i => free_row Y1.out i
    go_wp2_with fail
    clear d0 d1 d2 d3 d4 d5 d6 z x0 x1 x2 x3 x4 x5
    obtain ⟨Y9, f9⟩ := put7 Y1.out (.int .i64 0) (.int .u32 0) (.bool false) (.slice none 0 0) (.bool false) (.int .u32 0) (.slice none 0 0)
    have F9 := Lib.hid (F1.out.then f9 (fun i hi (h : i = w.heap.size + 1) => by omega))
    have P9 := Lib.hid f9
    clear f9
    generalize (((((((w1.setCell ⟨w.heap.size + 1, 0, none⟩ (.int .i64 0)).setCell ⟨w.heap.size + 1, 1, none⟩ (.int .u32 0)).setCell ⟨w.heap.size + 1, 2, none⟩ (.bool false)).setCell ⟨w.heap.size + 1, 3, none⟩ (.slice none 0 0)).setCell ⟨w.heap.size + 1, 4, none⟩ (.bool false)).setCell ⟨w.heap.size + 1, 5, none⟩ (.int .u32 0)).setCell ⟨w.heap.size + 1, 6, none⟩ (.slice none 0 0)) = w9 at *
    obtain ⟨d0, d1, d2, d3, d4, d5, d6⟩ := cells7 Y9
    refine bodyPost_ret (v := .tuple #[.agg #[.int .i64 0, .int .u32 0, .bool false, .slice none 0 0, .bool false, .int .u32 0, .slice none 0 0], .iface 32 (.int .i64 12)]) (by simp [results, Try.results25, go_sem, d0, d1, d2, d3, d4, d5, d6]) rfl ?_
    exact ⟨F9.out, 0, false, _, rfl, Err.num 12⟩
  · have q0 : ((pr : Int) == 17) = false := by simp; omega
    clear h1 h2 h3 k
    go_enter Try.func25, Try.ntmps25
    go_upto_region 2 with fail
    generalize (w.alloc _).alloc _ = w1 at *
    obtain ⟨x0, x1, x2, x3, x4, x5⟩ := cells6' X1.out
    obtain ⟨d0, d1, d2, d3, d4, d5, d6⟩ := cells7 Y1.out
    have z := fun i => free_row Y1.out i
    go_wp2_with fail
    clear d0 d1 d2 d3 d4 d5 d6 z x0 x1 x2 x3 x4 x5
    obtain ⟨Y9, f9⟩ := put7 Y1.out (.int .i64 0) (.int .u32 0) (.bool false) (.slice none 0 0) (.bool false) (.int .u32 0) (.slice none 0 0)
    have F9 := Lib.hid (F1.out.then f9 (fun i hi (h : i = w.heap.size + 1) => by omega))
    have P9 := Lib.hid f9
    clear f9
    generalize (((((((w1.setCell ⟨w.heap.size + 1, 0, none⟩ (.int .i64 0)).setCell ⟨w.heap.size + 1, 1, none⟩ (.int .u32 0)).setCell ⟨w.heap.size + 1, 2, none⟩ (.bool false)).setCell ⟨w.heap.size + 1, 3, none⟩ (.slice none 0 0)).setCell ⟨w.heap.size + 1, 4, none⟩ (.bool false)).setCell ⟨w.heap.size + 1, 5, none⟩ (.int .u32 0)).setCell ⟨w.heap.size + 1, 6, none⟩ (.slice none 0 0)) = w9 at *
    obtain ⟨d0, d1, d2, d3, d4, d5, d6⟩ := cells7 Y9
    refine bodyPost_ret (v := .tuple #[.agg #[.int .i64 0, .int .u32 0, .bool false, .slice none 0 0, .bool false, .int .u32 0, .slice none 0 0], .iface 32 (.int .i64 12)]) (by simp [results, Try.results25, go_sem, d0, d1, d2, d3, d4, d5, d6]) rfl ?_
    exact ⟨F9.out, 0, false, _, rfl, Err.num 12⟩
set_option maxRecDepth 100000 in
set_option maxHeartbeats 1600000 in
theorem tnTake_vx {w : World} {p : Pk} {bo : Option Addr} {bn bc : Nat} (h : PkRd w p bo bn bc) (h1 : p.proto = 17) (h2 : p.dport = 4789) :
    Calls Try.prog 25 #[.agg #[.int .u32 (p.src : Int), .int .u32 (p.dst : Int), .int .u8 (p.proto : Int), .int .u16 (p.sport : Int), .int .u16 (p.dport : Int), .slice bo bn bc]] w (TnTook w (takeP p)) := by
  have f1 := ((Fr.refl No w).alloc (.cells #[.int .u32 (p.src : Int), .int .u32 (p.dst : Int), .int .u8 (p.proto : Int), .int .u16 (p.sport : Int), .int .u16 (p.dport : Int), .slice bo bn bc] 41)).alloc (.cells #[.int .i64 0, .int .u32 0, .bool false, .slice none 0 0, .bool false, .int .u32 0, .slice none 0 0] 83)
  have F1 := Lib.hid f1
  have X1 := Lib.hid (((Fr.refl No _).alloc (.cells #[.int .i64 0, .int .u32 0, .bool false, .slice none 0 0, .bool false, .int .u32 0, .slice none 0 0] 83)).heap (heap_alloc_new w (.cells #[.int .u32 (p.src : Int), .int .u32 (p.dst : Int), .int .u8 (p.proto : Int), .int .u16 (p.sport : Int), .int .u16 (p.dport : Int), .slice bo bn bc] 41)) (fun h => h))
  have Y1 := Lib.hid (heap_alloc_new (w.alloc (.cells #[.int .u32 (p.src : Int), .int .u32 (p.dst : Int), .int .u8 (p.proto : Int), .int .u16 (p.sport : Int), .int .u16 (p.dport : Int), .slice bo bn bc] 41)) (.cells #[.int .i64 0, .int .u32 0, .bool false, .slice none 0 0, .bool false, .int .u32 0, .slice none 0 0] 83))
  rw [show (w.alloc (.cells #[.int .u32 (p.src : Int), .int .u32 (p.dst : Int), .int .u8 (p.proto : Int), .int .u16 (p.sport : Int), .int .u16 (p.dport : Int), .slice bo bn bc] 41)).heap.size = w.heap.size + 1 by simp] at Y1
  have hz1 : ((w.alloc (.cells #[.int .u32 (p.src : Int), .int .u32 (p.dst : Int), .int .u8 (p.proto : Int), .int .u16 (p.sport : Int), .int .u16 (p.dport : Int), .slice bo bn bc] 41)).alloc (.cells #[.int .i64 0, .int .u32 0, .bool false, .slice none 0 0, .bool false, .int .u32 0, .slice none 0 0] 83)).heap.size = w.heap.size + 2 := by simp
  have HB := Lib.hid h.b
  have HLE := Lib.hid h.le
  have hbe := h.b.2.le
  have hbf := h.b.2.capLe
  clear h f1
  obtain ⟨RR, hR⟩ : ∃ RR, takeP p = RR := ⟨_, rfl⟩
  rw [hR]
  have HRR := Lib.hid hR
  have HP1 := Lib.hid h1
  have HP2 := Lib.hid h2
  rw [h1, h2] at X1 Y1 F1 hz1 ⊢
  clear hR h1 h2
  go_enter Try.func25, Try.ntmps25
  go_upto_region 2 with fail
  generalize (w.alloc _).alloc _ = w1 at *
  obtain ⟨x0, x1, x2, x3, x4, x5⟩ := cells6' X1.out
  obtain ⟨d0, d1, d2, d3, d4, d5, d6⟩ := cells7 Y1.out
  have z := fun i => free_row Y1.out i
  have p1 := set_row (cs' := #[.int .i64 1, .int .u32 0, .bool false, .slice none 0 0, .bool false, .int .u32 0, .slice none 0 0]) Y1.out 0 (.int .i64 1) (by simp)
  have p2 := set_row (cs' := #[.int .i64 1, .int .u32 0, .bool true, .slice none 0 0, .bool false, .int .u32 0, .slice none 0 0]) p1 2 (.bool true) (by simp)
  have fx := ((Fr.refl (Is (w.heap.size + 1)) w1).setCell (p := ⟨w.heap.size + 1, 0, none⟩) (.inl rfl) (.int .i64 1)).setCell (p := ⟨w.heap.size + 1, 2, none⟩) (.inl rfl) (.bool true)
  have Y2 := Lib.hid p2
  have FX2 := Lib.hid fx
  clear p1 p2 fx
  have X2 := Lib.hid (FX2.out.heap X1.out (fun h : w.heap.size = w.heap.size + 1 => by omega))
  have F2 := Lib.hid (F1.out.then FX2.out (fun i hi (h : i = w.heap.size + 1) => by omega))
  have HB2 := Lib.hid (HB.out.no F2.out)
  go_upto_region 4 with fail
  clear d0 d1 d2 d3 d4 d5 d6 z x0 x1 x2 x3 x4 x5
  generalize (w1.setCell ⟨w.heap.size + 1, 0, none⟩ (.int .i64 1)).setCell ⟨w.heap.size + 1, 2, none⟩ (.bool true) = w2 at *
  obtain ⟨x0, x1, x2, x3, x4, x5⟩ := cells6' X2.out
  go_wp2_with fail
  refine (vx_dec HB2.out (by unfold big; have := HLE.out; omega)).mono ?_
  cases hv : vxDec p.b with
  | ok id fs =>
    have hR : RR = .ok 1 id true [] false 0 fs := by rw [← HRR.out]; unfold takeP; rw [if_pos ⟨HP1.out, HP2.out⟩, hv]
    subst hR
    clear hv HRR
    rintro r w3 ⟨g, gc, rfl, ob, f3, hg⟩
    have Y3 := Lib.hid (f3.heap Y2.out (fun h => h))
    have F3 := Lib.hid (F2.out.trans f3)
    have OB3 := Lib.hid ob
    have hlt2 := lt_of_heap Y2.out
    clear f3 ob x0 x1 x2 x3 x4 x5
    obtain ⟨d0, d1, d2, d3, d4, d5, d6⟩ := cells7 Y3.out
    have z := fun i => free_row Y3.out i
    go_wp2_with fail
    clear d0 d1 d2 d3 d4 d5 d6 z
    have p1 := set_row (cs' := #[.int .i64 1, .int .u32 (id : Int), .bool true, .slice none 0 0, .bool false, .int .u32 0, .slice none 0 0]) Y3.out 1 (.int .u32 (id : Int)) (by simp)
    have p2 := set_row (cs' := #[.int .i64 1, .int .u32 (id : Int), .bool true, .slice none 0 0, .bool false, .int .u32 0, .slice (some ⟨g, 0, none⟩) fs.length gc]) p1 6 (.slice (some ⟨g, 0, none⟩) fs.length gc) (by simp)
    have fx := ((Fr.refl (Is (w.heap.size + 1)) w3).setCell (p := ⟨w.heap.size + 1, 1, none⟩) (.inl rfl) (.int .u32 (id : Int))).setCell (p := ⟨w.heap.size + 1, 6, none⟩) (.inl rfl) (.slice (some ⟨g, 0, none⟩) fs.length gc)
    have Y4 := Lib.hid p2
    have FX4 := Lib.hid fx
    clear p1 p2 fx
    have F4 := Lib.hid (F3.out.then FX4.out (fun i hi (h : i = w.heap.size + 1) => by omega))
    have OB4 := Lib.hid (OB3.out.fr FX4.out (fun a ha (h : a.block = w.heap.size + 1) => by cases ha; simp only at h; omega))
    generalize ((w3.setCell ⟨w.heap.size + 1, 1, none⟩ (.int .u32 (id : Int))).setCell ⟨w.heap.size + 1, 6, none⟩ (.slice (some ⟨g, 0, none⟩) fs.length gc)) = w4 at *
    obtain ⟨Y9, f9⟩ := put7 Y4.out (.int .i64 1) (.int .u32 (id : Int)) (.bool true) (.slice none 0 0) (.bool false) (.int .u32 0) (.slice (some ⟨g, 0, none⟩) fs.length gc)
    have F9 := Lib.hid (F4.out.then f9 (fun i hi (h : i = w.heap.size + 1) => by omega))
    have P9 := Lib.hid f9
    clear f9
    generalize (((((((w4.setCell ⟨w.heap.size + 1, 0, none⟩ (.int .i64 1)).setCell ⟨w.heap.size + 1, 1, none⟩ (.int .u32 (id : Int))).setCell ⟨w.heap.size + 1, 2, none⟩ (.bool true)).setCell ⟨w.heap.size + 1, 3, none⟩ (.slice none 0 0)).setCell ⟨w.heap.size + 1, 4, none⟩ (.bool false)).setCell ⟨w.heap.size + 1, 5, none⟩ (.int .u32 0)).setCell ⟨w.heap.size + 1, 6, none⟩ (.slice (some ⟨g, 0, none⟩) fs.length gc)) = w9 at *
    obtain ⟨d0, d1, d2, d3, d4, d5, d6⟩ := cells7 Y9
    refine bodyPost_ret (v := .tuple #[.agg #[.int .i64 1, .int .u32 (id : Int), .bool true, .slice none 0 0, .bool false, .int .u32 0, .slice (some ⟨g, 0, none⟩) fs.length gc], .nilIface]) (by simp [results, Try.results25, go_sem, d0, d1, d2, d3, d4, d5, d6]) rfl ?_
    exact ⟨F9.out, none, 0, 0, [], g, gc, rfl, Ro.nil _ _, OB4.out.fr P9.out (fun a ha (h : a.block = w.heap.size + 1) => by cases ha; simp only at h; omega), by have := F2.out.size; omega⟩
  | no i c =>
    have hR : RR = .no (vxlanS :: inS i) c := by rw [← HRR.out]; unfold takeP; rw [if_pos ⟨HP1.out, HP2.out⟩, hv]
    subst hR
    clear hv HRR
    rintro r w3 ⟨b, rfl, he, f3⟩
    have Y3 := Lib.hid (f3.heap Y2.out (fun h => h))
    have F3 := Lib.hid (F2.out.trans f3)
    have HE3 := Lib.hid he
    clear f3 he x0 x1 x2 x3 x4 x5
    obtain ⟨d0, d1, d2, d3, d4, d5, d6⟩ := cells7 Y3.out
    have z := fun i => free_row Y3.out i
    go_wp2_with fail
    clear d0 d1 d2 d3 d4 d5 d6 z
    have p1 := set_row (cs' := #[.int .i64 1, .int .u32 0, .bool true, .slice none 0 0, .bool false, .int .u32 0, .slice none 0 0]) Y3.out 1 (.int .u32 0) (by simp)
    have p2 := set_row (cs' := #[.int .i64 1, .int .u32 0, .bool true, .slice none 0 0, .bool false, .int .u32 0, .slice none 0 0]) p1 6 (.slice none 0 0) (by simp)
    have fx := ((Fr.refl (Is (w.heap.size + 1)) w3).setCell (p := ⟨w.heap.size + 1, 1, none⟩) (.inl rfl) (.int .u32 0)).setCell (p := ⟨w.heap.size + 1, 6, none⟩) (.inl rfl) (.slice none 0 0)
    have Y4 := Lib.hid p2
    have FX4 := Lib.hid fx
    clear p1 p2 fx
    have F4 := Lib.hid (F3.out.then FX4.out (fun i hi (h : i = w.heap.size + 1) => by omega))
    have HE4 := Lib.hid (Err.is6 HE3.out Y3.out pk_types.2 FX4.out)
    generalize ((w3.setCell ⟨w.heap.size + 1, 1, none⟩ (.int .u32 0)).setCell ⟨w.heap.size + 1, 6, none⟩ (.slice none 0 0)) = w4 at *
    obtain ⟨Y9, f9⟩ := put7 Y4.out (.int .i64 1) (.int .u32 0) (.bool true) (.slice none 0 0) (.bool false) (.int .u32 0) (.slice none 0 0)
    have F9 := Lib.hid (F4.out.then f9 (fun i hi (h : i = w.heap.size + 1) => by omega))
    have P9 := Lib.hid f9
    clear f9
    generalize (((((((w4.setCell ⟨w.heap.size + 1, 0, none⟩ (.int .i64 1)).setCell ⟨w.heap.size + 1, 1, none⟩ (.int .u32 0)).setCell ⟨w.heap.size + 1, 2, none⟩ (.bool true)).setCell ⟨w.heap.size + 1, 3, none⟩ (.slice none 0 0)).setCell ⟨w.heap.size + 1, 4, none⟩ (.bool false)).setCell ⟨w.heap.size + 1, 5, none⟩ (.int .u32 0)).setCell ⟨w.heap.size + 1, 6, none⟩ (.slice none 0 0)) = w9 at *
    obtain ⟨d0, d1, d2, d3, d4, d5, d6⟩ := cells7 Y9
    refine bodyPost_ret (v := .tuple #[.agg #[.int .i64 1, .int .u32 0, .bool true, .slice none 0 0, .bool false, .int .u32 0, .slice none 0 0], .iface 107 (.pointer (some ⟨b, 0, none⟩))]) (by simp [results, Try.results25, go_sem, d0, d1, d2, d3, d4, d5, d6]) rfl ?_
    exact ⟨F9.out, 1, true, _, rfl, Err.is6 HE4.out Y4.out pk_types.2 P9.out⟩
set_option maxRecDepth 100000 in
set_option maxHeartbeats 1600000 in
theorem tnTake_gn {w : World} {p : Pk} {bo : Option Addr} {bn bc : Nat} (h : PkRd w p bo bn bc) (h1 : p.proto = 17) (h2 : p.dport = 6081) :
    Calls Try.prog 25 #[.agg #[.int .u32 (p.src : Int), .int .u32 (p.dst : Int), .int .u8 (p.proto : Int), .int .u16 (p.sport : Int), .int .u16 (p.dport : Int), .slice bo bn bc]] w (TnTook w (takeP p)) := by
  have f1 := ((Fr.refl No w).alloc (.cells #[.int .u32 (p.src : Int), .int .u32 (p.dst : Int), .int .u8 (p.proto : Int), .int .u16 (p.sport : Int), .int .u16 (p.dport : Int), .slice bo bn bc] 41)).alloc (.cells #[.int .i64 0, .int .u32 0, .bool false, .slice none 0 0, .bool false, .int .u32 0, .slice none 0 0] 83)
  have F1 := Lib.hid f1
  have X1 := Lib.hid (((Fr.refl No _).alloc (.cells #[.int .i64 0, .int .u32 0, .bool false, .slice none 0 0, .bool false, .int .u32 0, .slice none 0 0] 83)).heap (heap_alloc_new w (.cells #[.int .u32 (p.src : Int), .int .u32 (p.dst : Int), .int .u8 (p.proto : Int), .int .u16 (p.sport : Int), .int .u16 (p.dport : Int), .slice bo bn bc] 41)) (fun h => h))
  have Y1 := Lib.hid (heap_alloc_new (w.alloc (.cells #[.int .u32 (p.src : Int), .int .u32 (p.dst : Int), .int .u8 (p.proto : Int), .int .u16 (p.sport : Int), .int .u16 (p.dport : Int), .slice bo bn bc] 41)) (.cells #[.int .i64 0, .int .u32 0, .bool false, .slice none 0 0, .bool false, .int .u32 0, .slice none 0 0] 83))
  rw [show (w.alloc (.cells #[.int .u32 (p.src : Int), .int .u32 (p.dst : Int), .int .u8 (p.proto : Int), .int .u16 (p.sport : Int), .int .u16 (p.dport : Int), .slice bo bn bc] 41)).heap.size = w.heap.size + 1 by simp] at Y1
  have hz1 : ((w.alloc (.cells #[.int .u32 (p.src : Int), .int .u32 (p.dst : Int), .int .u8 (p.proto : Int), .int .u16 (p.sport : Int), .int .u16 (p.dport : Int), .slice bo bn bc] 41)).alloc (.cells #[.int .i64 0, .int .u32 0, .bool false, .slice none 0 0, .bool false, .int .u32 0, .slice none 0 0] 83)).heap.size = w.heap.size + 2 := by simp
  have HB := Lib.hid h.b
  have HLE := Lib.hid h.le
  have hbe := h.b.2.le
  have hbf := h.b.2.capLe
  clear h f1
  obtain ⟨RR, hR⟩ : ∃ RR, takeP p = RR := ⟨_, rfl⟩
  rw [hR]
  have HRR := Lib.hid hR
  have HP1 := Lib.hid h1
  have HP2 := Lib.hid h2
  rw [h1, h2] at X1 Y1 F1 hz1 ⊢
  clear hR h1 h2
  go_enter Try.func25, Try.ntmps25
  go_upto_region 2 with fail
  generalize (w.alloc _).alloc _ = w1 at *
  obtain ⟨x0, x1, x2, x3, x4, x5⟩ := cells6' X1.out
  obtain ⟨d0, d1, d2, d3, d4, d5, d6⟩ := cells7 Y1.out
  have z := fun i => free_row Y1.out i
  have p0 := set_row (cs' := #[.int .i64 2, .int .u32 0, .bool false, .slice none 0 0, .bool false, .int .u32 0, .slice none 0 0]) Y1.out 0 (.int .i64 2) (by simp)
  have p1 := set_row (cs' := #[.int .i64 2, .int .u32 0, .bool true, .slice none 0 0, .bool false, .int .u32 0, .slice none 0 0]) p0 2 (.bool true) (by simp)
  have fx := (((Fr.refl (Is (w.heap.size + 1)) w1).setCell (p := ⟨w.heap.size + 1, 0, none⟩) (.inl rfl) (.int .i64 2)).setCell (p := ⟨w.heap.size + 1, 2, none⟩) (.inl rfl) (.bool true))
  have Y2 := Lib.hid p1
  have FX2 := Lib.hid fx
  clear p0 p1 fx
  have X2 := Lib.hid (FX2.out.heap X1.out (fun h : w.heap.size = w.heap.size + 1 => by omega))
  have F2 := Lib.hid (F1.out.then FX2.out (fun i hi (h : i = w.heap.size + 1) => by omega))
  have HB2 := Lib.hid (HB.out.no F2.out)
  go_upto_region 7 with fail
  clear d0 d1 d2 d3 d4 d5 d6 z x0 x1 x2 x3 x4 x5
  generalize (w1.setCell ⟨w.heap.size + 1, 0, none⟩ (.int .i64 2)).setCell ⟨w.heap.size + 1, 2, none⟩ (.bool true) = w2 at *
  obtain ⟨x0, x1, x2, x3, x4, x5⟩ := cells6' X2.out
  go_wp2_with fail
  refine (gnDecap_any HB2.out HLE.out).mono ?_
  have hlt2 := lt_of_heap Y2.out
  have hsz2 := F2.out.size
  cases hv : gnDec p.b with
  | ok id os fs =>
    have hR : RR = .ok 2 id true os false 0 fs := by rw [← HRR.out]; unfold takeP; rw [if_neg (by rw [HP2.out]; omega), if_pos ⟨HP1.out, HP2.out⟩, hv]
    subst hR
    clear hv HRR
    rintro r w3 ⟨oo, on, oc, ad, g, gc, rfl, ro, ob, f3, hg⟩
    have Y3 := Lib.hid (f3.heap Y2.out (fun h => h))
    have F3 := Lib.hid (F2.out.trans f3)
    have OB3 := Lib.hid ob
    have RO3 := Lib.hid ro
    clear f3 ob ro x0 x1 x2 x3 x4 x5
    obtain ⟨d0, d1, d2, d3, d4, d5, d6⟩ := cells7 Y3.out
    have z := fun i => free_row Y3.out i
    go_wp2_with fail
    clear d0 d1 d2 d3 d4 d5 d6 z
    have p0 := set_row (cs' := #[.int .i64 2, .int .u32 (id : Int), .bool true, .slice none 0 0, .bool false, .int .u32 0, .slice none 0 0]) Y3.out 1 (.int .u32 (id : Int)) (by simp)
    have p1 := set_row (cs' := #[.int .i64 2, .int .u32 (id : Int), .bool true, .slice oo on oc, .bool false, .int .u32 0, .slice none 0 0]) p0 3 (.slice oo on oc) (by simp)
    have p2 := set_row (cs' := #[.int .i64 2, .int .u32 (id : Int), .bool true, .slice oo on oc, .bool false, .int .u32 0, .slice (some ⟨g, 0, none⟩) fs.length gc]) p1 6 (.slice (some ⟨g, 0, none⟩) fs.length gc) (by simp)
    have fx := ((((Fr.refl (Is (w.heap.size + 1)) w3).setCell (p := ⟨w.heap.size + 1, 1, none⟩) (.inl rfl) (.int .u32 (id : Int))).setCell (p := ⟨w.heap.size + 1, 3, none⟩) (.inl rfl) (.slice oo on oc)).setCell (p := ⟨w.heap.size + 1, 6, none⟩) (.inl rfl) (.slice (some ⟨g, 0, none⟩) fs.length gc))
    have Y4 := Lib.hid p2
    have FX4 := Lib.hid fx
    clear p0 p1 p2 fx
    have F4 := Lib.hid (F3.out.then FX4.out (fun i hi (h : i = w.heap.size + 1) => by omega))
    have OB4 := Lib.hid (OB3.out.fr FX4.out (fun a ha (h : a.block = w.heap.size + 1) => by cases ha; simp only at h; omega))
    have RO4 := Lib.hid (RO3.out.fr FX4.out (fun k (hk : w2.heap.size ≤ k ∧ k < g) (h : k = w.heap.size + 1) => by omega))
    generalize (((w3.setCell ⟨w.heap.size + 1, 1, none⟩ (.int .u32 (id : Int))).setCell ⟨w.heap.size + 1, 3, none⟩ (.slice oo on oc)).setCell ⟨w.heap.size + 1, 6, none⟩ (.slice (some ⟨g, 0, none⟩) fs.length gc)) = w4 at *
    obtain ⟨Y9, f9⟩ := put7 Y4.out (.int .i64 2) (.int .u32 (id : Int)) (.bool true) (.slice oo on oc) (.bool false) (.int .u32 0) (.slice (some ⟨g, 0, none⟩) fs.length gc)
    have F9 := Lib.hid (F4.out.then f9 (fun i hi (h : i = w.heap.size + 1) => by omega))
    have P9 := Lib.hid f9
    clear f9
    generalize (((((((w4.setCell ⟨w.heap.size + 1, 0, none⟩ (.int .i64 2)).setCell ⟨w.heap.size + 1, 1, none⟩ (.int .u32 (id : Int))).setCell ⟨w.heap.size + 1, 2, none⟩ (.bool true)).setCell ⟨w.heap.size + 1, 3, none⟩ (.slice oo on oc)).setCell ⟨w.heap.size + 1, 4, none⟩ (.bool false)).setCell ⟨w.heap.size + 1, 5, none⟩ (.int .u32 0)).setCell ⟨w.heap.size + 1, 6, none⟩ (.slice (some ⟨g, 0, none⟩) fs.length gc)) = w9 at *
    obtain ⟨d0, d1, d2, d3, d4, d5, d6⟩ := cells7 Y9
    refine bodyPost_ret (v := .tuple #[.agg #[.int .i64 2, .int .u32 (id : Int), .bool true, .slice oo on oc, .bool false, .int .u32 0, .slice (some ⟨g, 0, none⟩) fs.length gc], .nilIface]) (by simp [results, Try.results25, go_sem, d0, d1, d2, d3, d4, d5, d6]) rfl ?_
    exact ⟨F9.out, oo, on, oc, ad, g, gc, rfl, (RO4.out.fr P9.out (fun k (hk : w2.heap.size ≤ k ∧ k < g) (h : k = w.heap.size + 1) => by omega)).mono (fun k (hk : w2.heap.size ≤ k ∧ k < g) => (show w.heap.size ≤ k by omega)), OB4.out.fr P9.out (fun a ha (h : a.block = w.heap.size + 1) => by cases ha; simp only at h; omega), by omega⟩
  | no i c =>
    have hR : RR = .no (geneveS :: inS i) c := by rw [← HRR.out]; unfold takeP; rw [if_neg (by rw [HP2.out]; omega), if_pos ⟨HP1.out, HP2.out⟩, hv]
    subst hR
    clear hv HRR
    rintro r w3 ⟨b, rfl, he, f3⟩
    have Y3 := Lib.hid (f3.heap Y2.out (fun h => h))
    have F3 := Lib.hid (F2.out.trans f3)
    have HE3 := Lib.hid he
    clear f3 he x0 x1 x2 x3 x4 x5
    obtain ⟨d0, d1, d2, d3, d4, d5, d6⟩ := cells7 Y3.out
    have z := fun i => free_row Y3.out i
    go_wp2_with fail
    clear d0 d1 d2 d3 d4 d5 d6 z
    have p0 := set_row (cs' := #[.int .i64 2, .int .u32 0, .bool true, .slice none 0 0, .bool false, .int .u32 0, .slice none 0 0]) Y3.out 1 (.int .u32 0) (by simp)
    have p1 := set_row (cs' := #[.int .i64 2, .int .u32 0, .bool true, .slice none 0 0, .bool false, .int .u32 0, .slice none 0 0]) p0 3 (.slice none 0 0) (by simp)
    have p2 := set_row (cs' := #[.int .i64 2, .int .u32 0, .bool true, .slice none 0 0, .bool false, .int .u32 0, .slice none 0 0]) p1 6 (.slice none 0 0) (by simp)
    have fx := ((((Fr.refl (Is (w.heap.size + 1)) w3).setCell (p := ⟨w.heap.size + 1, 1, none⟩) (.inl rfl) (.int .u32 0)).setCell (p := ⟨w.heap.size + 1, 3, none⟩) (.inl rfl) (.slice none 0 0)).setCell (p := ⟨w.heap.size + 1, 6, none⟩) (.inl rfl) (.slice none 0 0))
    have Y4 := Lib.hid p2
    have FX4 := Lib.hid fx
    clear p0 p1 p2 fx
    have F4 := Lib.hid (F3.out.then FX4.out (fun i hi (h : i = w.heap.size + 1) => by omega))
    have HE4 := Lib.hid (Err.is6 HE3.out Y3.out pk_types.2 FX4.out)
    generalize (((w3.setCell ⟨w.heap.size + 1, 1, none⟩ (.int .u32 0)).setCell ⟨w.heap.size + 1, 3, none⟩ (.slice none 0 0)).setCell ⟨w.heap.size + 1, 6, none⟩ (.slice none 0 0)) = w4 at *
    obtain ⟨Y9, f9⟩ := put7 Y4.out (.int .i64 2) (.int .u32 0) (.bool true) (.slice none 0 0) (.bool false) (.int .u32 0) (.slice none 0 0)
    have F9 := Lib.hid (F4.out.then f9 (fun i hi (h : i = w.heap.size + 1) => by omega))
    have P9 := Lib.hid f9
    clear f9
    generalize (((((((w4.setCell ⟨w.heap.size + 1, 0, none⟩ (.int .i64 2)).setCell ⟨w.heap.size + 1, 1, none⟩ (.int .u32 0)).setCell ⟨w.heap.size + 1, 2, none⟩ (.bool true)).setCell ⟨w.heap.size + 1, 3, none⟩ (.slice none 0 0)).setCell ⟨w.heap.size + 1, 4, none⟩ (.bool false)).setCell ⟨w.heap.size + 1, 5, none⟩ (.int .u32 0)).setCell ⟨w.heap.size + 1, 6, none⟩ (.slice none 0 0)) = w9 at *
    obtain ⟨d0, d1, d2, d3, d4, d5, d6⟩ := cells7 Y9
    refine bodyPost_ret (v := .tuple #[.agg #[.int .i64 2, .int .u32 0, .bool true, .slice none 0 0, .bool false, .int .u32 0, .slice none 0 0], .iface 107 (.pointer (some ⟨b, 0, none⟩))]) (by simp [results, Try.results25, go_sem, d0, d1, d2, d3, d4, d5, d6]) rfl ?_
    exact ⟨F9.out, 2, true, _, rfl, Err.is6 HE4.out Y4.out pk_types.2 P9.out⟩
set_option maxRecDepth 100000 in
set_option maxHeartbeats 1600000 in
theorem tnTake_gre {w : World} {p : Pk} {bo : Option Addr} {bn bc : Nat} (h : PkRd w p bo bn bc) (h1 : p.proto = 47) :
    Calls Try.prog 25 #[.agg #[.int .u32 (p.src : Int), .int .u32 (p.dst : Int), .int .u8 (p.proto : Int), .int .u16 (p.sport : Int), .int .u16 (p.dport : Int), .slice bo bn bc]] w (TnTook w (takeP p)) := by
  have f1 := ((Fr.refl No w).alloc (.cells #[.int .u32 (p.src : Int), .int .u32 (p.dst : Int), .int .u8 (p.proto : Int), .int .u16 (p.sport : Int), .int .u16 (p.dport : Int), .slice bo bn bc] 41)).alloc (.cells #[.int .i64 0, .int .u32 0, .bool false, .slice none 0 0, .bool false, .int .u32 0, .slice none 0 0] 83)
  have F1 := Lib.hid f1
  have X1 := Lib.hid (((Fr.refl No _).alloc (.cells #[.int .i64 0, .int .u32 0, .bool false, .slice none 0 0, .bool false, .int .u32 0, .slice none 0 0] 83)).heap (heap_alloc_new w (.cells #[.int .u32 (p.src : Int), .int .u32 (p.dst : Int), .int .u8 (p.proto : Int), .int .u16 (p.sport : Int), .int .u16 (p.dport : Int), .slice bo bn bc] 41)) (fun h => h))
  have Y1 := Lib.hid (heap_alloc_new (w.alloc (.cells #[.int .u32 (p.src : Int), .int .u32 (p.dst : Int), .int .u8 (p.proto : Int), .int .u16 (p.sport : Int), .int .u16 (p.dport : Int), .slice bo bn bc] 41)) (.cells #[.int .i64 0, .int .u32 0, .bool false, .slice none 0 0, .bool false, .int .u32 0, .slice none 0 0] 83))
  rw [show (w.alloc (.cells #[.int .u32 (p.src : Int), .int .u32 (p.dst : Int), .int .u8 (p.proto : Int), .int .u16 (p.sport : Int), .int .u16 (p.dport : Int), .slice bo bn bc] 41)).heap.size = w.heap.size + 1 by simp] at Y1
  have hz1 : ((w.alloc (.cells #[.int .u32 (p.src : Int), .int .u32 (p.dst : Int), .int .u8 (p.proto : Int), .int .u16 (p.sport : Int), .int .u16 (p.dport : Int), .slice bo bn bc] 41)).alloc (.cells #[.int .i64 0, .int .u32 0, .bool false, .slice none 0 0, .bool false, .int .u32 0, .slice none 0 0] 83)).heap.size = w.heap.size + 2 := by simp
  have HB := Lib.hid h.b
  have HLE := Lib.hid h.le
  have hbe := h.b.2.le
  have hbf := h.b.2.capLe
  clear h f1
  obtain ⟨RR, hR⟩ : ∃ RR, takeP p = RR := ⟨_, rfl⟩
  rw [hR]
  have HRR := Lib.hid hR
  have HP1 := Lib.hid h1
  rw [h1] at X1 Y1 F1 hz1 ⊢
  clear hR h1
  go_enter Try.func25, Try.ntmps25
  go_upto_region 2 with fail
  generalize (w.alloc _).alloc _ = w1 at *
  obtain ⟨x0, x1, x2, x3, x4, x5⟩ := cells6' X1.out
  obtain ⟨d0, d1, d2, d3, d4, d5, d6⟩ := cells7 Y1.out
  have z := fun i => free_row Y1.out i
  have f2 := (Fr.refl No w1).alloc (.cells #[.bool false, .bool false, .int .u32 0, .bool false, .int .u32 0] 113)
  have Q2 := Lib.hid (heap_alloc_new w1 (.cells #[.bool false, .bool false, .int .u32 0, .bool false, .int .u32 0] 113))
  rw [hz1] at Q2
  have X2 := Lib.hid (f2.heap X1.out (fun h => h))
  have Y2 := Lib.hid (f2.heap Y1.out (fun h => h))
  have F2 := Lib.hid (F1.out.trans f2)
  have HB2 := Lib.hid (HB.out.no F2.out)
  clear f2
  go_upto_region 10 with fail
  clear d0 d1 d2 d3 d4 d5 d6 z x0 x1 x2 x3 x4 x5
  generalize w1.alloc (.cells #[.bool false, .bool false, .int .u32 0, .bool false, .int .u32 0] 113) = w2 at *
  obtain ⟨x0, x1, x2, x3, x4, x5⟩ := cells6' X2.out
  go_wp2_with fail
  refine (gDecap_any HB2.out HLE.out).mono ?_
  have hlt2 := lt_of_heap Q2.out
  cases hv : gDec p.b with
  | ok hs hk key hq seq fs =>
    have hR : RR = .ok 3 key hk [] hq seq fs := by rw [← HRR.out]; unfold takeP; rw [if_neg (by rw [HP1.out]; omega), if_neg (by rw [HP1.out]; omega), if_pos HP1.out, hv]
    subst hR
    clear hv HRR
    rintro r w3 ⟨g, gc, rfl, ob, f3, hg⟩
    have Y3 := Lib.hid (f3.heap Y2.out (fun h => h))
    have Q3 := Lib.hid (f3.heap Q2.out (fun h => h))
    have F3 := Lib.hid (F2.out.trans f3)
    have OB3 := Lib.hid ob
    clear f3 ob x0 x1 x2 x3 x4 x5
    obtain ⟨d0, d1, d2, d3, d4, d5, d6⟩ := cells7 Y3.out
    have z := fun i => free_row Y3.out i
    obtain ⟨q0, q1, q2, q3, q4⟩ := cells5 Q3.out
    have zq := fun i => free_row Q3.out i
    have p0 := set_row (cs' := #[.bool hs, .bool false, .int .u32 0, .bool false, .int .u32 0]) Q3.out 0 (.bool hs) (by simp)
    have p1 := set_row (cs' := #[.bool hs, .bool hk, .int .u32 0, .bool false, .int .u32 0]) p0 1 (.bool hk) (by simp)
    have p2 := set_row (cs' := #[.bool hs, .bool hk, .int .u32 (key : Int), .bool false, .int .u32 0]) p1 2 (.int .u32 (key : Int)) (by simp)
    have p3 := set_row (cs' := #[.bool hs, .bool hk, .int .u32 (key : Int), .bool hq, .int .u32 0]) p2 3 (.bool hq) (by simp)
    have p4 := set_row (cs' := #[.bool hs, .bool hk, .int .u32 (key : Int), .bool hq, .int .u32 (seq : Int)]) p3 4 (.int .u32 (seq : Int)) (by simp)
    have fx := ((((((Fr.refl (Is (w.heap.size + 2)) w3).setCell (p := ⟨w.heap.size + 2, 0, none⟩) (.inl rfl) (.bool hs)).setCell (p := ⟨w.heap.size + 2, 1, none⟩) (.inl rfl) (.bool hk)).setCell (p := ⟨w.heap.size + 2, 2, none⟩) (.inl rfl) (.int .u32 (key : Int))).setCell (p := ⟨w.heap.size + 2, 3, none⟩) (.inl rfl) (.bool hq)).setCell (p := ⟨w.heap.size + 2, 4, none⟩) (.inl rfl) (.int .u32 (seq : Int)))
    have Q4 := Lib.hid p4
    clear p0 p1 p2 p3 p4
    have Y4 := Lib.hid (fx.heap Y3.out (fun h : w.heap.size + 1 = w.heap.size + 2 => by omega))
    have F4 := Lib.hid (F3.out.then fx (fun i hi (h : i = w.heap.size + 2) => by omega))
    have OB4 := Lib.hid (OB3.out.fr fx (fun a ha (h : a.block = w.heap.size + 2) => by cases ha; simp only at h; omega))
    have Y5 := Lib.hid (set_row (cs' := #[.int .i64 0, .int .u32 0, .bool false, .slice none 0 0, .bool false, .int .u32 0, .slice (some ⟨g, 0, none⟩) fs.length gc]) Y4.out 6 (.slice (some ⟨g, 0, none⟩) fs.length gc) (by simp))
    have fy := Fr.setCell (Fr.refl (Is (w.heap.size + 1)) (((((w3.setCell ⟨w.heap.size + 2, 0, none⟩ (.bool hs)).setCell ⟨w.heap.size + 2, 1, none⟩ (.bool hk)).setCell ⟨w.heap.size + 2, 2, none⟩ (.int .u32 (key : Int))).setCell ⟨w.heap.size + 2, 3, none⟩ (.bool hq)).setCell ⟨w.heap.size + 2, 4, none⟩ (.int .u32 (seq : Int)))) (p := ⟨w.heap.size + 1, 6, none⟩) (.inl rfl) (.slice (some ⟨g, 0, none⟩) fs.length gc)
    have Q5 := Lib.hid (fy.heap Q4.out (fun h : w.heap.size + 2 = w.heap.size + 1 => by omega))
    have F5 := Lib.hid (F4.out.then fy (fun i hi (h : i = w.heap.size + 1) => by omega))
    have OB5 := Lib.hid (OB4.out.fr fy (fun a ha (h : a.block = w.heap.size + 1) => by cases ha; simp only at h; omega))
    clear fx fy
    go_upto_region 11 with fail
    clear d0 d1 d2 d3 d4 d5 d6 z q0 q1 q2 q3 q4 zq
    generalize ((((((w3.setCell ⟨w.heap.size + 2, 0, none⟩ (.bool hs)).setCell ⟨w.heap.size + 2, 1, none⟩ (.bool hk)).setCell ⟨w.heap.size + 2, 2, none⟩ (.int .u32 (key : Int))).setCell ⟨w.heap.size + 2, 3, none⟩ (.bool hq)).setCell ⟨w.heap.size + 2, 4, none⟩ (.int .u32 (seq : Int))).setCell ⟨w.heap.size + 1, 6, none⟩ (.slice (some ⟨g, 0, none⟩) fs.length gc)) = w5 at *
    have SF : Hid (∀ W, Fr (Is (w.heap.size + 1)) w5 W → W.cell? ⟨w.heap.size + 2, 0, none⟩ = some (.bool hs) ∧ W.cell? ⟨w.heap.size + 2, 1, none⟩ = some (.bool hk) ∧ W.cell? ⟨w.heap.size + 2, 2, none⟩ = some (.int .u32 (key : Int)) ∧ W.cell? ⟨w.heap.size + 2, 3, none⟩ = some (.bool hq) ∧ W.cell? ⟨w.heap.size + 2, 4, none⟩ = some (.int .u32 (seq : Int))) := Lib.hid (fun W f => cells5 (f.heap Q5.out (fun h : w.heap.size + 2 = w.heap.size + 1 => by omega)))
    obtain ⟨q0, q1, q2, q3, q4⟩ := SF.out _ (Fr.refl _ _)
    obtain ⟨d0, d1, d2, d3, d4, d5, d6⟩ := cells7 Y5.out
    have z := fun i => free_row Y5.out i
    go_region_held3 (fun W => W.cell? ⟨w.heap.size + 2, 0, none⟩ = some (.bool hs) ∧ W.cell? ⟨w.heap.size + 2, 1, none⟩ = some (.bool hk) ∧ W.cell? ⟨w.heap.size + 2, 2, none⟩ = some (.int .u32 (key : Int)) ∧ W.cell? ⟨w.heap.size + 2, 3, none⟩ = some (.bool hq) ∧ W.cell? ⟨w.heap.size + 2, 4, none⟩ = some (.int .u32 (seq : Int)))
      (first | exact SF.out _ (Fr.refl _ _).drew | exact SF.out _ ((Fr.refl _ _).drew.setCell (.inl rfl) _) | exact SF.out _ (((Fr.refl _ _).drew.setCell (.inl rfl) _).setCell (.inl rfl) _) | exact SF.out _ ((((Fr.refl _ _).drew.setCell (.inl rfl) _).setCell (.inl rfl) _).setCell (.inl rfl) _) | exact SF.out _ (((((Fr.refl _ _).drew.setCell (.inl rfl) _).setCell (.inl rfl) _).setCell (.inl rfl) _).setCell (.inl rfl) _) | exact SF.out _ ((((((Fr.refl _ _).drew.setCell (.inl rfl) _).setCell (.inl rfl) _).setCell (.inl rfl) _).setCell (.inl rfl) _).setCell (.inl rfl) _) | go_keep) (fail)
    clear d0 d1 d2 d3 d4 d5 d6 z q0 q1 q2 q3 q4 SF
    have p0 := set_row (cs' := #[.int .i64 3, .int .u32 0, .bool false, .slice none 0 0, .bool false, .int .u32 0, .slice (some ⟨g, 0, none⟩) fs.length gc]) Y5.out 0 (.int .i64 3) (by simp)
    have p1 := set_row (cs' := #[.int .i64 3, .int .u32 0, .bool hk, .slice none 0 0, .bool false, .int .u32 0, .slice (some ⟨g, 0, none⟩) fs.length gc]) p0 2 (.bool hk) (by simp)
    have p2 := set_row (cs' := #[.int .i64 3, .int .u32 (key : Int), .bool hk, .slice none 0 0, .bool false, .int .u32 0, .slice (some ⟨g, 0, none⟩) fs.length gc]) p1 1 (.int .u32 (key : Int)) (by simp)
    have p3 := set_row (cs' := #[.int .i64 3, .int .u32 (key : Int), .bool hk, .slice none 0 0, .bool hq, .int .u32 0, .slice (some ⟨g, 0, none⟩) fs.length gc]) p2 4 (.bool hq) (by simp)
    have p4 := set_row (cs' := #[.int .i64 3, .int .u32 (key : Int), .bool hk, .slice none 0 0, .bool hq, .int .u32 (seq : Int), .slice (some ⟨g, 0, none⟩) fs.length gc]) p3 5 (.int .u32 (seq : Int)) (by simp)
    have fx := ((((((Fr.refl (Is (w.heap.size + 1)) w5).setCell (p := ⟨w.heap.size + 1, 0, none⟩) (.inl rfl) (.int .i64 3)).setCell (p := ⟨w.heap.size + 1, 2, none⟩) (.inl rfl) (.bool hk)).setCell (p := ⟨w.heap.size + 1, 1, none⟩) (.inl rfl) (.int .u32 (key : Int))).setCell (p := ⟨w.heap.size + 1, 4, none⟩) (.inl rfl) (.bool hq)).setCell (p := ⟨w.heap.size + 1, 5, none⟩) (.inl rfl) (.int .u32 (seq : Int)))
    have Y6 := Lib.hid p4
    have FX6 := Lib.hid fx
    clear p0 p1 p2 p3 p4 fx
    have F6 := Lib.hid (F5.out.then FX6.out (fun i hi (h : i = w.heap.size + 1) => by omega))
    have OB6 := Lib.hid (OB5.out.fr FX6.out (fun a ha (h : a.block = w.heap.size + 1) => by cases ha; simp only at h; omega))
    have OB7 := Lib.hid (OB6.out.no (Fr.refl No _).drew)
    have Y7 := Lib.hid (((Fr.refl No _).drew).heap Y6.out (fun h => h))
    have F7 := Lib.hid (F6.out.drew)
    generalize (((((w5.setCell ⟨w.heap.size + 1, 0, none⟩ (.int .i64 3)).setCell ⟨w.heap.size + 1, 2, none⟩ (.bool hk)).setCell ⟨w.heap.size + 1, 1, none⟩ (.int .u32 (key : Int))).setCell ⟨w.heap.size + 1, 4, none⟩ (.bool hq)).setCell ⟨w.heap.size + 1, 5, none⟩ (.int .u32 (seq : Int))).drew = w7 at *
    obtain ⟨d0, d1, d2, d3, d4, d5, d6⟩ := cells7 Y7.out
    have z := fun i => free_row Y7.out i
    go_wp2_with fail
    clear d0 d1 d2 d3 d4 d5 d6 z
    obtain ⟨Y9, f9⟩ := put7 Y7.out (.int .i64 3) (.int .u32 (key : Int)) (.bool hk) (.slice none 0 0) (.bool hq) (.int .u32 (seq : Int)) (.slice (some ⟨g, 0, none⟩) fs.length gc)
    have F9 := Lib.hid (F7.out.then f9 (fun i hi (h : i = w.heap.size + 1) => by omega))
    have P9 := Lib.hid f9
    clear f9
    generalize (((((((w7.setCell ⟨w.heap.size + 1, 0, none⟩ (.int .i64 3)).setCell ⟨w.heap.size + 1, 1, none⟩ (.int .u32 (key : Int))).setCell ⟨w.heap.size + 1, 2, none⟩ (.bool hk)).setCell ⟨w.heap.size + 1, 3, none⟩ (.slice none 0 0)).setCell ⟨w.heap.size + 1, 4, none⟩ (.bool hq)).setCell ⟨w.heap.size + 1, 5, none⟩ (.int .u32 (seq : Int))).setCell ⟨w.heap.size + 1, 6, none⟩ (.slice (some ⟨g, 0, none⟩) fs.length gc)) = w9 at *
    obtain ⟨d0, d1, d2, d3, d4, d5, d6⟩ := cells7 Y9
    refine bodyPost_ret (v := .tuple #[.agg #[.int .i64 3, .int .u32 (key : Int), .bool hk, .slice none 0 0, .bool hq, .int .u32 (seq : Int), .slice (some ⟨g, 0, none⟩) fs.length gc], .nilIface]) (by simp [results, Try.results25, go_sem, d0, d1, d2, d3, d4, d5, d6]) rfl ?_
    exact ⟨F9.out, none, 0, 0, [], g, gc, rfl, Ro.nil _ _, OB7.out.fr P9.out (fun a ha (h : a.block = w.heap.size + 1) => by cases ha; simp only at h; omega), by have := F2.out.size; omega⟩
  | no i c =>
    have hR : RR = .no (greS :: inS i) c := by rw [← HRR.out]; unfold takeP; rw [if_neg (by rw [HP1.out]; omega), if_neg (by rw [HP1.out]; omega), if_pos HP1.out, hv]
    subst hR
    clear hv HRR
    rintro r w3 ⟨v, rfl, he, f3⟩
    have Y3 := Lib.hid (f3.heap Y2.out (fun h => h))
    have Q3 := Lib.hid (f3.heap Q2.out (fun h => h))
    have F3 := Lib.hid (F2.out.trans f3)
    have HE3 := Lib.hid he
    clear f3 he x0 x1 x2 x3 x4 x5
    obtain ⟨d0, d1, d2, d3, d4, d5, d6⟩ := cells7 Y3.out
    have z := fun i => free_row Y3.out i
    obtain ⟨q0, q1, q2, q3, q4⟩ := cells5 Q3.out
    have zq := fun i => free_row Q3.out i
    unfold zeroH
    have p0 := set_row (cs' := #[.bool false, .bool false, .int .u32 0, .bool false, .int .u32 0]) Q3.out 0 (.bool false) (by simp)
    have p1 := set_row (cs' := #[.bool false, .bool false, .int .u32 0, .bool false, .int .u32 0]) p0 1 (.bool false) (by simp)
    have p2 := set_row (cs' := #[.bool false, .bool false, .int .u32 0, .bool false, .int .u32 0]) p1 2 (.int .u32 0) (by simp)
    have p3 := set_row (cs' := #[.bool false, .bool false, .int .u32 0, .bool false, .int .u32 0]) p2 3 (.bool false) (by simp)
    have p4 := set_row (cs' := #[.bool false, .bool false, .int .u32 0, .bool false, .int .u32 0]) p3 4 (.int .u32 0) (by simp)
    have fx := ((((((Fr.refl (Is (w.heap.size + 2)) w3).setCell (p := ⟨w.heap.size + 2, 0, none⟩) (.inl rfl) (.bool false)).setCell (p := ⟨w.heap.size + 2, 1, none⟩) (.inl rfl) (.bool false)).setCell (p := ⟨w.heap.size + 2, 2, none⟩) (.inl rfl) (.int .u32 0)).setCell (p := ⟨w.heap.size + 2, 3, none⟩) (.inl rfl) (.bool false)).setCell (p := ⟨w.heap.size + 2, 4, none⟩) (.inl rfl) (.int .u32 0))
    have Q4 := Lib.hid p4
    clear p0 p1 p2 p3 p4
    have Y4 := Lib.hid (fx.heap Y3.out (fun h : w.heap.size + 1 = w.heap.size + 2 => by omega))
    have F4 := Lib.hid (F3.out.then fx (fun i hi (h : i = w.heap.size + 2) => by omega))
    have HE4 := Lib.hid (Err.is6 HE3.out Q3.out ttypes fx)
    have Y5 := Lib.hid (set_row (cs' := #[.int .i64 0, .int .u32 0, .bool false, .slice none 0 0, .bool false, .int .u32 0, .slice none 0 0]) Y4.out 6 (.slice none 0 0) (by simp))
    have fy := Fr.setCell (Fr.refl (Is (w.heap.size + 1)) (((((w3.setCell ⟨w.heap.size + 2, 0, none⟩ (.bool false)).setCell ⟨w.heap.size + 2, 1, none⟩ (.bool false)).setCell ⟨w.heap.size + 2, 2, none⟩ (.int .u32 0)).setCell ⟨w.heap.size + 2, 3, none⟩ (.bool false)).setCell ⟨w.heap.size + 2, 4, none⟩ (.int .u32 0))) (p := ⟨w.heap.size + 1, 6, none⟩) (.inl rfl) (.slice none 0 0)
    have Q5 := Lib.hid (fy.heap Q4.out (fun h : w.heap.size + 2 = w.heap.size + 1 => by omega))
    have F5 := Lib.hid (F4.out.then fy (fun i hi (h : i = w.heap.size + 1) => by omega))
    have HE5 := Lib.hid (Err.is6 HE4.out Y4.out pk_types.2 fy)
    clear fx fy
    go_upto_region 11 with fail
    clear d0 d1 d2 d3 d4 d5 d6 z q0 q1 q2 q3 q4 zq
    generalize ((((((w3.setCell ⟨w.heap.size + 2, 0, none⟩ (.bool false)).setCell ⟨w.heap.size + 2, 1, none⟩ (.bool false)).setCell ⟨w.heap.size + 2, 2, none⟩ (.int .u32 0)).setCell ⟨w.heap.size + 2, 3, none⟩ (.bool false)).setCell ⟨w.heap.size + 2, 4, none⟩ (.int .u32 0)).setCell ⟨w.heap.size + 1, 6, none⟩ (.slice none 0 0)) = w5 at *
    have SF : Hid (∀ W, Fr (Is (w.heap.size + 1)) w5 W → W.cell? ⟨w.heap.size + 2, 0, none⟩ = some (.bool false) ∧ W.cell? ⟨w.heap.size + 2, 1, none⟩ = some (.bool false) ∧ W.cell? ⟨w.heap.size + 2, 2, none⟩ = some (.int .u32 0) ∧ W.cell? ⟨w.heap.size + 2, 3, none⟩ = some (.bool false) ∧ W.cell? ⟨w.heap.size + 2, 4, none⟩ = some (.int .u32 0)) := Lib.hid (fun W f => cells5 (f.heap Q5.out (fun h : w.heap.size + 2 = w.heap.size + 1 => by omega)))
    obtain ⟨q0, q1, q2, q3, q4⟩ := SF.out _ (Fr.refl _ _)
    obtain ⟨d0, d1, d2, d3, d4, d5, d6⟩ := cells7 Y5.out
    have z := fun i => free_row Y5.out i
    go_region_held3 (fun W => W.cell? ⟨w.heap.size + 2, 0, none⟩ = some (.bool false) ∧ W.cell? ⟨w.heap.size + 2, 1, none⟩ = some (.bool false) ∧ W.cell? ⟨w.heap.size + 2, 2, none⟩ = some (.int .u32 0) ∧ W.cell? ⟨w.heap.size + 2, 3, none⟩ = some (.bool false) ∧ W.cell? ⟨w.heap.size + 2, 4, none⟩ = some (.int .u32 0))
      (first | exact SF.out _ (Fr.refl _ _).drew | exact SF.out _ ((Fr.refl _ _).drew.setCell (.inl rfl) _) | exact SF.out _ (((Fr.refl _ _).drew.setCell (.inl rfl) _).setCell (.inl rfl) _) | exact SF.out _ ((((Fr.refl _ _).drew.setCell (.inl rfl) _).setCell (.inl rfl) _).setCell (.inl rfl) _) | exact SF.out _ (((((Fr.refl _ _).drew.setCell (.inl rfl) _).setCell (.inl rfl) _).setCell (.inl rfl) _).setCell (.inl rfl) _) | exact SF.out _ ((((((Fr.refl _ _).drew.setCell (.inl rfl) _).setCell (.inl rfl) _).setCell (.inl rfl) _).setCell (.inl rfl) _).setCell (.inl rfl) _) | go_keep) (fail)
    clear d0 d1 d2 d3 d4 d5 d6 z q0 q1 q2 q3 q4 SF
    have p0 := set_row (cs' := #[.int .i64 3, .int .u32 0, .bool false, .slice none 0 0, .bool false, .int .u32 0, .slice none 0 0]) Y5.out 0 (.int .i64 3) (by simp)
    have p1 := set_row (cs' := #[.int .i64 3, .int .u32 0, .bool false, .slice none 0 0, .bool false, .int .u32 0, .slice none 0 0]) p0 2 (.bool false) (by simp)
    have p2 := set_row (cs' := #[.int .i64 3, .int .u32 0, .bool false, .slice none 0 0, .bool false, .int .u32 0, .slice none 0 0]) p1 1 (.int .u32 0) (by simp)
    have p3 := set_row (cs' := #[.int .i64 3, .int .u32 0, .bool false, .slice none 0 0, .bool false, .int .u32 0, .slice none 0 0]) p2 4 (.bool false) (by simp)
    have p4 := set_row (cs' := #[.int .i64 3, .int .u32 0, .bool false, .slice none 0 0, .bool false, .int .u32 0, .slice none 0 0]) p3 5 (.int .u32 0) (by simp)
    have fx := ((((((Fr.refl (Is (w.heap.size + 1)) w5).setCell (p := ⟨w.heap.size + 1, 0, none⟩) (.inl rfl) (.int .i64 3)).setCell (p := ⟨w.heap.size + 1, 2, none⟩) (.inl rfl) (.bool false)).setCell (p := ⟨w.heap.size + 1, 1, none⟩) (.inl rfl) (.int .u32 0)).setCell (p := ⟨w.heap.size + 1, 4, none⟩) (.inl rfl) (.bool false)).setCell (p := ⟨w.heap.size + 1, 5, none⟩) (.inl rfl) (.int .u32 0))
    have Y6 := Lib.hid p4
    have FX6 := Lib.hid fx
    clear p0 p1 p2 p3 p4 fx
    have F6 := Lib.hid (F5.out.then FX6.out (fun i hi (h : i = w.heap.size + 1) => by omega))
    have HE6 := Lib.hid (Err.is6 HE5.out Y5.out pk_types.2 FX6.out)
    have HE7 := Lib.hid (HE6.out.no (Fr.refl No _).drew)
    have Y7 := Lib.hid (((Fr.refl No _).drew).heap Y6.out (fun h => h))
    have F7 := Lib.hid (F6.out.drew)
    generalize (((((w5.setCell ⟨w.heap.size + 1, 0, none⟩ (.int .i64 3)).setCell ⟨w.heap.size + 1, 2, none⟩ (.bool false)).setCell ⟨w.heap.size + 1, 1, none⟩ (.int .u32 0)).setCell ⟨w.heap.size + 1, 4, none⟩ (.bool false)).setCell ⟨w.heap.size + 1, 5, none⟩ (.int .u32 0)).drew = w7 at *
    obtain ⟨d0, d1, d2, d3, d4, d5, d6⟩ := cells7 Y7.out
    have z := fun i => free_row Y7.out i
    go_wp2_with fail
    clear d0 d1 d2 d3 d4 d5 d6 z
    obtain ⟨Y9, f9⟩ := put7 Y7.out (.int .i64 3) (.int .u32 0) (.bool false) (.slice none 0 0) (.bool false) (.int .u32 0) (.slice none 0 0)
    have F9 := Lib.hid (F7.out.then f9 (fun i hi (h : i = w.heap.size + 1) => by omega))
    have P9 := Lib.hid f9
    clear f9
    generalize (((((((w7.setCell ⟨w.heap.size + 1, 0, none⟩ (.int .i64 3)).setCell ⟨w.heap.size + 1, 1, none⟩ (.int .u32 0)).setCell ⟨w.heap.size + 1, 2, none⟩ (.bool false)).setCell ⟨w.heap.size + 1, 3, none⟩ (.slice none 0 0)).setCell ⟨w.heap.size + 1, 4, none⟩ (.bool false)).setCell ⟨w.heap.size + 1, 5, none⟩ (.int .u32 0)).setCell ⟨w.heap.size + 1, 6, none⟩ (.slice none 0 0)) = w9 at *
    obtain ⟨d0, d1, d2, d3, d4, d5, d6⟩ := cells7 Y9
    refine bodyPost_ret (v := .tuple #[.agg #[.int .i64 3, .int .u32 0, .bool false, .slice none 0 0, .bool false, .int .u32 0, .slice none 0 0], v]) (by simp [results, Try.results25, go_sem, d0, d1, d2, d3, d4, d5, d6]) rfl ?_
    exact ⟨F9.out, 3, false, _, rfl, Err.is6 HE7.out Y7.out pk_types.2 P9.out⟩
end Go.Proofs.Ythoppkklooomgaa
/- BridgeMoves. -/
import Derived.Test.YticebdoiahadoaaDoorMvB
import Derived.Deep.DeepCutAuto
import Derived.Deep.CutBlock
namespace Go.Proofs.YticebdoiahadoaaDoor
open Go.RowKit
set_option linter.unusedVariables false
set_option linter.unusedSimpArgs false
theorem boxMA {w2 wx w3 : World} {c0 c1 : Value} {t : TypeId} (hx : Fr No w2 wx) (f : Fr No (wx.alloc (.cells #[c0, c1] t)) w3) (d0 d1 : Value) :
    ((w3.setCell ⟨wx.heap.size, 0, none⟩ d0).setCell ⟨wx.heap.size, 1, none⟩ d1).heap[wx.heap.size]? = some (.cells #[d0, d1] t (0, 0)) ∧ Fr No w2 ((w3.setCell ⟨wx.heap.size, 0, none⟩ d0).setCell ⟨wx.heap.size, 1, none⟩ d1) ∧ w2.heap.size ≤ wx.heap.size := by
  have h : w3.heap[wx.heap.size]? = some (.cells #[c0, c1] t (0, 0)) := f.heap (heap_alloc_new wx (.cells #[c0, c1] t)) (fun h => h)
  have := set_row (set_row h 0 d0) 1 d1
  exact ⟨by simpa using this, (((hx.alloc (.cells #[c0, c1] t)).trans f).setCell (p := ⟨wx.heap.size, 0, none⟩) (.inr hx.size) _).setCell (p := ⟨wx.heap.size, 1, none⟩) (.inr hx.size) _, hx.size⟩
theorem boxMB {w2 w3 : World} {t : TypeId} (f : Fr No w2 w3) (d0 d1 : Value) :
    (w3.alloc (.cells #[d0, d1] t)).heap[w3.heap.size]? = some (.cells #[d0, d1] t (0, 0)) ∧ Fr No w2 (w3.alloc (.cells #[d0, d1] t)) ∧ w2.heap.size ≤ w3.heap.size :=
  ⟨heap_alloc_new w3 (.cells #[d0, d1] t), f.alloc _, f.size⟩
theorem boxMC {wx w3 : World} {c0 c1 : Value} {t : TypeId} (f : Fr No (wx.alloc (.cells #[c0, c1] t)) w3) : w3.cell? ⟨wx.heap.size, 0, none⟩ = some c0 ∧ w3.cell? ⟨wx.heap.size, 1, none⟩ = some c1 ∧ w3.frozen? ⟨wx.heap.size, 0, none⟩ = false ∧ w3.frozen? ⟨wx.heap.size, 1, none⟩ = false := by
  have h : w3.heap[wx.heap.size]? = some (.cells #[c0, c1] t (0, 0)) := f.heap (heap_alloc_new wx (.cells #[c0, c1] t)) (fun h => h)
  exact ⟨(cells2 h).1, (cells2 h).2, frozen_of_row w3 wx.heap.size 0 _ t h, frozen_of_row w3 wx.heap.size 1 _ t h⟩
theorem ev_all : evM mvAll = .agg #[.int .u8 255, .int .u8 255, .int .u8 255, .int .u8 255, .int .u8 255, .int .u8 255] := by
  have h : ((255 : UInt8).toNat : Int) = 255 := by decide
  unfold evM mvAll byteV
  rw [h]
theorem frame_all (o : Mac) (W : World) : Calls Tryd.prog 10 #[.agg #[.int .u8 255, .int .u8 255, .int .u8 255, .int .u8 255, .int .u8 255, .int .u8 255], evM o] W fun e w' => ∃ g, e = .returned (.slice (some ⟨g, 0, none⟩) 60 60) ∧ Bs w' (some ⟨g, 0, none⟩) 60 60 (frB mvAll o) ∧ Fr No W w' ∧ W.heap.size ≤ g := by
  rw [← ev_all]
  exact l16frame_any mvAll o W
set_option maxRecDepth 100000 in
set_option maxHeartbeats 8000000 in
theorem BridgeMoves_walk {w : World} (hg : EG w) (room : Int) {life : Int} (hl0 : 0 ≤ life) (hl1 : life < 18446744073709551616) (om : Mac) {ao : Option Addr} {n cap : Nat} {xs : List Pl} (hs : Ps w ao n cap xs) :
    Calls Tryd.prog 3 #[.int .i64 room, .int .u64 life, evM om, .slice ao n cap] w fun e w' => e = .returned (.bool true) ∧ Fr No w w' := by
  have HGA := Lib.hid hg
  have HS := Lib.hid hs
  have HN := Lib.hid hs.1
  have hle := hs.2.1
  have hcap := hs.2.2.1
  clear hs hg
  obtain ⟨o0, o1, o2, o3, o4, o5⟩ := om
  obtain ⟨v0, hv0, hev⟩ := u8_even o0
  obtain ⟨v5, hv5, hne⟩ := u8_turn o5
  have HO : Hid (grpM ⟨v0, o1, o2, o3, o4, o5⟩ = false) := Lib.hid (by unfold grpM; simp only; rw [decide_eq_false]; omega)
  have HU : Hid (grpM ⟨v0, o1, o2, o3, o4, v5⟩ = false) := Lib.hid (by unfold grpM; simp only; rw [decide_eq_false]; omega)
  have HOU : Hid ((⟨v0, o1, o2, o3, o4, o5⟩ : Mac) ≠ ⟨v0, o1, o2, o3, o4, v5⟩) := Lib.hid (fun e => hne (congrArg Mac.f e).symm)
  have HV0 := Lib.hid hv0
  have HV5 := Lib.hid hv5
  clear hne hev hv0 hv5
  have hA := heap_alloc_new w (.cells #[.int .u8 (o0.toNat : Int), .int .u8 (o1.toNat : Int), .int .u8 (o2.toNat : Int), .int .u8 (o3.toNat : Int), .int .u8 (o4.toNat : Int), .int .u8 (o5.toNat : Int)] 24)
  have hF := (Fr.refl No w).alloc (.cells #[.int .u8 (o0.toNat : Int), .int .u8 (o1.toNat : Int), .int .u8 (o2.toNat : Int), .int .u8 (o3.toNat : Int), .int .u8 (o4.toNat : Int), .int .u8 (o5.toNat : Int)] 24)
  unfold evM byteV
  simp only
  go_enter Tryd.func3, Tryd.ntmps3
  go_wp2_with fail
  generalize World.alloc _ _ = w0 at hA hF ⊢
  have NB : Hid (w.heap.size ≤ w.heap.size) := Lib.hid (Nat.le_refl _)
  obtain ⟨bA, hbA⟩ : ∃ g, w.heap.size = g := ⟨_, rfl⟩
  rw [hbA] at hA ⊢
  have HBA := Lib.hid hbA
  have LA := Lib.hid (lt_of_heap hA)
  have RA := Lib.hid hA
  have HF := Lib.hid hF
  clear hA hF hbA
  refine (l16shown_any w0).mono ?_
  rintro e w1 ⟨rfl, f1⟩
  obtain ⟨rm0, hrm0⟩ : ∃ x, max room 2 = x := ⟨_, rfl⟩
  obtain ⟨lf, hlf⟩ : ∃ x, max life 1 = x := ⟨_, rfl⟩
  have hmx : (if life < 1 then 1 else life) = lf := by rw [← hlf]; split <;> omega
  have hmr : (if room < 2 then 2 else room) = rm0 := by rw [← hrm0]; split <;> omega
  have lf1 : 1 ≤ lf := by omega
  have lf2 : lf < 18446744073709551616 := by omega
  have rm1 : 2 ≤ rm0 := by omega
  go_wp2_with fail
  obtain ⟨rm, hrm⟩ : ∃ rm, min (max rm0 1) 64 = rm := ⟨_, rfl⟩
  refine (bgNew_z w1 rm0 lf (by omega) lf2 hrm).mono ?_
  rintro e w2 ⟨bb, rfl, h2, f2⟩
  have H := Lib.hid (h2.less (Z' := fun k => k < w0.heap.size) (fun k hk => Nat.lt_of_lt_of_le hk f1.size))
  have RM : Hid (2 ≤ rm) := Lib.hid (by omega)
  have LF1 := Lib.hid lf1
  have RA2 := Lib.hid ((f1.trans f2).heap RA.out (fun h => h))
  have F2 := Lib.hid (HF.out.trans (f1.trans f2))
  have W02 := Lib.hid (f1.trans f2).size
  clear h2 f1 f2 hrm hmx hmr hlf hrm0 lf1 rm1 NB
  obtain ⟨a0, a1, a2, a3, a4, a5⟩ := cells6 RA2.out
  have z0 : w2.frozen? ⟨bA, 0, none⟩ = false := frozen_of_row w2 bA 0 _ _ RA2.out
  obtain ⟨bn, mn, LN, hbs, hfd, hab, hbz⟩ := bgBase_fd H.out ok0
  have HBS := Lib.hid hbs
  clear hbs hfd hab hbz mn LN
  go_wp2_with fail
  refine (HBS.out _ (Fr.refl _ _)).mono ?_
  rintro e w3 ⟨rfl, rfl⟩
  go_upto_region 8 with fail
  rw [HV0.out]
  have rA := set_row RA2.out 0 (.int .u8 (v0.toNat : Int))
  have fA : Fr (Is bA) w2 (w2.setCell ⟨bA, 0, none⟩ (.int .u8 (v0.toNat : Int))) := (Fr.refl (Is bA) w2).setCell (p := ⟨bA, 0, none⟩) (.inl rfl) _
  have H3 := Lib.hid (H.out.wr (fA.mono (fun k _ (e : k = bA) => show k < w0.heap.size by rw [e]; exact LA.out)))
  have W0S : Hid (w0.heap.size ≤ (w2.setCell ⟨bA, 0, none⟩ (.int .u8 (v0.toNat : Int))).heap.size) := Lib.hid (by have h1 := W02.out; have h2 := fA.size; omega)
  have F3 := Lib.hid (F2.out.then fA (fun i hi (e : i = bA) => by have := HBA.out; omega))
  have RA3 : Hid ((w2.setCell ⟨bA, 0, none⟩ (.int .u8 (v0.toNat : Int))).heap[bA]? = some (.cells #[.int .u8 (v0.toNat : Int), .int .u8 (o1.toNat : Int), .int .u8 (o2.toNat : Int), .int .u8 (o3.toNat : Int), .int .u8 (o4.toNat : Int), .int .u8 (o5.toNat : Int)] 24 (0, 0))) := Lib.hid (by simpa using rA)
  clear rA fA H F2 RA2 a0 a1 a2 a3 a4 a5 z0 HBS
  generalize World.setCell _ _ _ = w3 at H3 F3 RA3 W0S ⊢
  obtain ⟨a0, a1, a2, a3, a4, a5⟩ := cells6 RA3.out
  have hB := heap_alloc_new w3 (.cells #[.int .u8 (v0.toNat : Int), .int .u8 (o1.toNat : Int), .int .u8 (o2.toNat : Int), .int .u8 (o3.toNat : Int), .int .u8 (o4.toNat : Int), .int .u8 (o5.toNat : Int)] 24)
  have fB := (Fr.refl No w3).alloc (.cells #[.int .u8 (v0.toNat : Int), .int .u8 (o1.toNat : Int), .int .u8 (o2.toNat : Int), .int .u8 (o3.toNat : Int), .int .u8 (o4.toNat : Int), .int .u8 (o5.toNat : Int)] 24)
  obtain ⟨Z1, h4, z1, z2⟩ := H3.out.one (.cells #[.int .u8 (v0.toNat : Int), .int .u8 (o1.toNat : Int), .int .u8 (o2.toNat : Int), .int .u8 (o3.toNat : Int), .int .u8 (o4.toNat : Int), .int .u8 (o5.toNat : Int)] 24)
  go_upto_region 9 with fail
  have nb := F3.out.size
  generalize World.alloc _ _ = w4 at hB fB h4 ⊢
  obtain ⟨bB, hbB⟩ : ∃ g, w3.heap.size = g := ⟨_, rfl⟩
  rw [hbB] at hB z2 nb ⊢
  have NB := Lib.hid nb
  have LAB : Hid (w0.heap.size ≤ bB) := Lib.hid (by rw [← hbB]; exact W0S.out)
  have ZA := Lib.hid (z1 _ LA.out)
  have ZB := Lib.hid z2
  have Z0 := Lib.hid z1
  have H4 := Lib.hid h4
  have RB4 := Lib.hid hB
  have RA4 := Lib.hid (fB.heap RA3.out (fun h => h))
  have F4 := Lib.hid (F3.out.trans fB)
  clear hB fB h4 z1 z2 nb hbB H3 F3 RA3 a0 a1 a2 a3 a4 a5
  obtain ⟨b0, b1, b2, b3, b4, b5⟩ := cells6 RB4.out
  have z5 : w4.frozen? ⟨bB, 5, none⟩ = false := frozen_of_row w4 bB 5 _ _ RB4.out
  go_upto_region 10 with fail
  rw [HV5.out]
  have rB := set_row RB4.out 5 (.int .u8 (v5.toNat : Int))
  have fB : Fr (Is bB) w4 (w4.setCell ⟨bB, 5, none⟩ (.int .u8 (v5.toNat : Int))) := (Fr.refl (Is bB) w4).setCell (p := ⟨bB, 5, none⟩) (.inl rfl) _
  have hab : bA ≠ bB := fun e => by have h1 := LA.out; have h2 := LAB.out; omega
  have H5 := Lib.hid (H4.out.wr (fB.mono (fun k _ (e : k = bB) => show Z1 k by rw [e]; exact ZB.out)))
  have F5 := Lib.hid (F4.out.then fB (fun i hi (e : i = bB) => by have := NB.out; omega))
  have RA5 := Lib.hid (fB.heap RA4.out (fun e => hab e))
  have RB5 : Hid ((w4.setCell ⟨bB, 5, none⟩ (.int .u8 (v5.toNat : Int))).heap[bB]? = some (.cells #[.int .u8 (v0.toNat : Int), .int .u8 (o1.toNat : Int), .int .u8 (o2.toNat : Int), .int .u8 (o3.toNat : Int), .int .u8 (o4.toNat : Int), .int .u8 (v5.toNat : Int)] 24 (0, 0))) := Lib.hid (by simpa using rB)
  clear rB fB hab H4 F4 RA4 RB4 b0 b1 b2 b3 b4 b5 z5
  generalize World.setCell _ _ _ = w5 at H5 F5 RA5 RB5 ⊢
  go_wp2_with fail
  go_loopw [12] (fun t12 wr => ∃ (k : Nat) (z : Int), k ≤ 5 ∧ t12 = .int .i64 z ∧ z = k + 1 ∧ BrZ Z1 wr bb rm lf (mvX k) ∧ Fr No w wr ∧ wr.heap[bA]? = some (.cells #[.int .u8 (v0.toNat : Int), .int .u8 (o1.toNat : Int), .int .u8 (o2.toNat : Int), .int .u8 (o3.toNat : Int), .int .u8 (o4.toNat : Int), .int .u8 (o5.toNat : Int)] 24 (0, 0)) ∧ wr.heap[bB]? = some (.cells #[.int .u8 (v0.toNat : Int), .int .u8 (o1.toNat : Int), .int .u8 (o2.toNat : Int), .int .u8 (o3.toNat : Int), .int .u8 (o4.toNat : Int), .int .u8 (v5.toNat : Int)] 24 (0, 0))) (fun t12 _ => 6 - (intOf t12).toNat)
  case atStart => exact ⟨0, 1, by omega, rfl, by simp, H5.out, F5.out, RA5.out, RB5.out⟩
  case round =>
    clear H5 F5 RA5 RB5
    obtain ⟨k, z, hk, rfl, hz, h6, f6, ra6, rb6⟩ := hrel
    have H6 := Lib.hid h6
    have F6 := Lib.hid f6
    have RA6 := Lib.hid ra6
    have RB6 := Lib.hid rb6
    clear h6 f6 ra6 rb6
    have hk6 : k = 0 ∨ k = 1 ∨ k = 2 ∨ k = 3 ∨ k = 4 ∨ k = 5 := by omega
    rcases hk6 with rfl | rfl | rfl | rfl | rfl | rfl
    · obtain rfl : z = 1 := by omega
      clear hz hk
      go_wp2_with fail
      refine (bgBind_z H6.out (p := 1) (t := 0) ⟨by omega, by omega⟩ (show aBind (mvX 0) 1 0 = (0, (aBind (mvX 0) 1 0).2) by kernel_rfl)).mono ?_
      rintro e w7 ⟨rfl, h7, f7⟩
      have H7 := Lib.hid h7
      have F7 := Lib.hid (F6.out.then f7 (fun i hi h => h (Z0.out i (Nat.lt_of_lt_of_le hi HF.out.size))))
      have RA7 := Lib.hid (f7.heap RA6.out (fun h => h ZA.out))
      have RB7 := Lib.hid (f7.heap RB6.out (fun h => h ZB.out))
      clear h7 f7 H6 F6 RA6 RB6
      go_wp2_with fail
      refine (bgPeer_z H7.out (n := 0) (t := 1) ⟨by omega, by omega⟩ (show aPeer (aBind (mvX 0) 1 0).2 0 1 = (0, mvX 1) by kernel_rfl)).mono ?_
      rintro e w8 ⟨rfl, h8, f8⟩
      have H8 := Lib.hid h8
      have F8 := Lib.hid (F7.out.then f8 (fun i hi h => h (Z0.out i (Nat.lt_of_lt_of_le hi HF.out.size))))
      have RA8 := Lib.hid (f8.heap RA7.out (fun h => h ZA.out))
      have RB8 := Lib.hid (f8.heap RB7.out (fun h => h ZB.out))
      clear h8 f8 H7 F7 RA7 RB7
      go_wp2_with fail
      go_roundw
      case rel => exact ⟨1, 2, by omega, by go_num, by simp, H8.out, F8.out, RA8.out, RB8.out⟩
      case measure => simp [intOf]
    · obtain rfl : z = 2 := by omega
      clear hz hk
      go_wp2_with fail
      refine (bgBind_z H6.out (p := 2) (t := 0) ⟨by omega, by omega⟩ (show aBind (mvX 1) 2 0 = (0, (aBind (mvX 1) 2 0).2) by kernel_rfl)).mono ?_
      rintro e w7 ⟨rfl, h7, f7⟩
      have H7 := Lib.hid h7
      have F7 := Lib.hid (F6.out.then f7 (fun i hi h => h (Z0.out i (Nat.lt_of_lt_of_le hi HF.out.size))))
      have RA7 := Lib.hid (f7.heap RA6.out (fun h => h ZA.out))
      have RB7 := Lib.hid (f7.heap RB6.out (fun h => h ZB.out))
      clear h7 f7 H6 F6 RA6 RB6
      go_wp2_with fail
      refine (bgPeer_z H7.out (n := 0) (t := 2) ⟨by omega, by omega⟩ (show aPeer (aBind (mvX 1) 2 0).2 0 2 = (0, mvX 2) by kernel_rfl)).mono ?_
      rintro e w8 ⟨rfl, h8, f8⟩
      have H8 := Lib.hid h8
      have F8 := Lib.hid (F7.out.then f8 (fun i hi h => h (Z0.out i (Nat.lt_of_lt_of_le hi HF.out.size))))
      have RA8 := Lib.hid (f8.heap RA7.out (fun h => h ZA.out))
      have RB8 := Lib.hid (f8.heap RB7.out (fun h => h ZB.out))
      clear h8 f8 H7 F7 RA7 RB7
      go_wp2_with fail
      go_roundw
      case rel => exact ⟨2, 3, by omega, by go_num, by simp, H8.out, F8.out, RA8.out, RB8.out⟩
      case measure => simp [intOf]
    · obtain rfl : z = 3 := by omega
      clear hz hk
      go_wp2_with fail
      refine (bgBind_z H6.out (p := 3) (t := 0) ⟨by omega, by omega⟩ (show aBind (mvX 2) 3 0 = (0, (aBind (mvX 2) 3 0).2) by kernel_rfl)).mono ?_
      rintro e w7 ⟨rfl, h7, f7⟩
      have H7 := Lib.hid h7
      have F7 := Lib.hid (F6.out.then f7 (fun i hi h => h (Z0.out i (Nat.lt_of_lt_of_le hi HF.out.size))))
      have RA7 := Lib.hid (f7.heap RA6.out (fun h => h ZA.out))
      have RB7 := Lib.hid (f7.heap RB6.out (fun h => h ZB.out))
      clear h7 f7 H6 F6 RA6 RB6
      go_wp2_with fail
      refine (bgPeer_z H7.out (n := 0) (t := 3) ⟨by omega, by omega⟩ (show aPeer (aBind (mvX 2) 3 0).2 0 3 = (0, mvX 3) by kernel_rfl)).mono ?_
      rintro e w8 ⟨rfl, h8, f8⟩
      have H8 := Lib.hid h8
      have F8 := Lib.hid (F7.out.then f8 (fun i hi h => h (Z0.out i (Nat.lt_of_lt_of_le hi HF.out.size))))
      have RA8 := Lib.hid (f8.heap RA7.out (fun h => h ZA.out))
      have RB8 := Lib.hid (f8.heap RB7.out (fun h => h ZB.out))
      clear h8 f8 H7 F7 RA7 RB7
      go_wp2_with fail
      go_roundw
      case rel => exact ⟨3, 4, by omega, by go_num, by simp, H8.out, F8.out, RA8.out, RB8.out⟩
      case measure => simp [intOf]
    · obtain rfl : z = 4 := by omega
      clear hz hk
      go_wp2_with fail
      refine (bgBind_z H6.out (p := 4) (t := 0) ⟨by omega, by omega⟩ (show aBind (mvX 3) 4 0 = (0, (aBind (mvX 3) 4 0).2) by kernel_rfl)).mono ?_
      rintro e w7 ⟨rfl, h7, f7⟩
      have H7 := Lib.hid h7
      have F7 := Lib.hid (F6.out.then f7 (fun i hi h => h (Z0.out i (Nat.lt_of_lt_of_le hi HF.out.size))))
      have RA7 := Lib.hid (f7.heap RA6.out (fun h => h ZA.out))
      have RB7 := Lib.hid (f7.heap RB6.out (fun h => h ZB.out))
      clear h7 f7 H6 F6 RA6 RB6
      go_wp2_with fail
      refine (bgPeer_z H7.out (n := 0) (t := 4) ⟨by omega, by omega⟩ (show aPeer (aBind (mvX 3) 4 0).2 0 4 = (0, mvX 4) by kernel_rfl)).mono ?_
      rintro e w8 ⟨rfl, h8, f8⟩
      have H8 := Lib.hid h8
      have F8 := Lib.hid (F7.out.then f8 (fun i hi h => h (Z0.out i (Nat.lt_of_lt_of_le hi HF.out.size))))
      have RA8 := Lib.hid (f8.heap RA7.out (fun h => h ZA.out))
      have RB8 := Lib.hid (f8.heap RB7.out (fun h => h ZB.out))
      clear h8 f8 H7 F7 RA7 RB7
      go_wp2_with fail
      go_roundw
      case rel => exact ⟨4, 5, by omega, by go_num, by simp, H8.out, F8.out, RA8.out, RB8.out⟩
      case measure => simp [intOf]
    · obtain rfl : z = 5 := by omega
      clear hz hk
      go_wp2_with fail
      refine (bgBind_z H6.out (p := 5) (t := 0) ⟨by omega, by omega⟩ (show aBind (mvX 4) 5 0 = (0, (aBind (mvX 4) 5 0).2) by kernel_rfl)).mono ?_
      rintro e w7 ⟨rfl, h7, f7⟩
      have H7 := Lib.hid h7
      have F7 := Lib.hid (F6.out.then f7 (fun i hi h => h (Z0.out i (Nat.lt_of_lt_of_le hi HF.out.size))))
      have RA7 := Lib.hid (f7.heap RA6.out (fun h => h ZA.out))
      have RB7 := Lib.hid (f7.heap RB6.out (fun h => h ZB.out))
      clear h7 f7 H6 F6 RA6 RB6
      go_wp2_with fail
      refine (bgPeer_z H7.out (n := 0) (t := 5) ⟨by omega, by omega⟩ (show aPeer (aBind (mvX 4) 5 0).2 0 5 = (0, mvX 5) by kernel_rfl)).mono ?_
      rintro e w8 ⟨rfl, h8, f8⟩
      have H8 := Lib.hid h8
      have F8 := Lib.hid (F7.out.then f8 (fun i hi h => h (Z0.out i (Nat.lt_of_lt_of_le hi HF.out.size))))
      have RA8 := Lib.hid (f8.heap RA7.out (fun h => h ZA.out))
      have RB8 := Lib.hid (f8.heap RB7.out (fun h => h ZB.out))
      clear h8 f8 H7 F7 RA7 RB7
      go_wp2_with fail
      go_roundw
      case rel => exact ⟨5, 6, by omega, by go_num, by simp, H8.out, F8.out, RA8.out, RB8.out⟩
      case measure => simp [intOf]
    · obtain rfl : z = 6 := by omega
      clear hz hk
      go_wp2_with fail
      go_loopw [13] (fun t13 wr => ∃ (k : Nat) (X : AB), k ≤ n ∧ k ≤ 30 ∧ t13 = .int .i64 k ∧ BrZ Z1 wr bb rm lf X ∧ MvI ⟨v0, o1, o2, o3, o4, o5⟩ ⟨v0, o1, o2, o3, o4, v5⟩ X ∧ Fr No w wr ∧ wr.heap[bA]? = some (.cells #[.int .u8 (v0.toNat : Int), .int .u8 (o1.toNat : Int), .int .u8 (o2.toNat : Int), .int .u8 (o3.toNat : Int), .int .u8 (o4.toNat : Int), .int .u8 (o5.toNat : Int)] 24 (0, 0)) ∧ wr.heap[bB]? = some (.cells #[.int .u8 (v0.toNat : Int), .int .u8 (o1.toNat : Int), .int .u8 (o2.toNat : Int), .int .u8 (o3.toNat : Int), .int .u8 (o4.toNat : Int), .int .u8 (v5.toNat : Int)] 24 (0, 0))) (fun t13 _ => n - (intOf t13).toNat)
      case atStart => exact ⟨0, mvX 5, by omega, by omega, rfl, H6.out, MvI.start _ _, F6.out, RA6.out, RB6.out⟩
      case round =>
        clear H6 F6 RA6 RB6
        obtain ⟨k, X, hk, hk2, rfl, h7, mv7, f7, ra7, rb7⟩ := hrel
        have H7 := Lib.hid h7
        have MV := Lib.hid mv7
        have F7 := Lib.hid f7
        have RA7 := Lib.hid ra7
        have RB7 := Lib.hid rb7
        clear h7 mv7 f7 ra7 rb7
        by_cases hlt : k < n ∧ k < 30
        · obtain ⟨l1, l2⟩ := hlt
          obtain ⟨x, hx⟩ : ∃ x, xs[k]? = some x := ⟨xs[k]'(by rw [← HN.out]; exact l1), List.getElem?_eq_getElem _⟩
          have HXO := Lib.hid (HS.out.2.2.2.2.2 x (List.mem_of_getElem? hx))
          cases ao with
          | none => exfalso; have := HS.out.2.2.2.1 rfl; omega
          | some a =>
            obtain ⟨c0, c1⟩ := HS.out.2.2.2.2.1 a rfl k x hx
            have hsp : (a.add (k * 2)).spot = none := World.cell?_spot c0
            obtain ⟨⟨ab, aoff, asp⟩, ha⟩ : ∃ b, a.add (k * 2) = b := ⟨_, rfl⟩
            rw [ha] at c0 c1 hsp
            simp only at hsp c0 c1
            subst hsp
            obtain ⟨pt, xn⟩ := x
            simp only at c0 c1
            obtain ⟨m, hm⟩ : ∃ m, bits .and .i64 xn 65535 = m := ⟨_, rfl⟩
            have hm2 : 0 ≤ m ∧ m < 65536 := by rw [← hm, i64_mask16]; omega
            obtain ⟨m0, m1⟩ := hm2
            have ht : m.tmod 4 = m % 4 := Int.tmod_eq_emod_of_nonneg m0
            obtain ⟨pn, hpn⟩ : ∃ p, 1 + m % 4 = p := ⟨_, rfl⟩
            have pn1 : 1 ≤ pn := by omega
            have pn2 : pn ≤ 4 := by omega
            have hw1 : IntKind.i64.wrap (1 + m % 4) = pn := by rw [IntKind.wrap_i64]; omega
            have hw2 : IntKind.i64.wrap (1 + m.tmod 4) = pn := by rw [ht]; exact hw1
            have hw4 : IntKind.i64.wrap pn = pn := by rw [IntKind.wrap_i64]; omega
            have hw3 : IntKind.i64.wrap (m.tmod 4) = m % 4 := by rw [ht, IntKind.wrap_i64]; omega
            have hwk : IntKind.u64.wrap (k : Int) = (k : Int) := by rw [IntKind.wrap_u64]; omega
            have SC : Hid (∀ W, Fr No wr W → (W.cell? ⟨ab, aoff, none⟩ = some (.bool pt) ∧ W.cell? ⟨ab, aoff + 1, none⟩ = some (.int .i64 xn))) := Lib.hid (fun W f => ⟨(F7.out.trans f).cell c0 (fun h => h), (F7.out.trans f).cell c1 (fun h => h)⟩)
            have kn1 : (k : Int) < (n : Int) := by omega
            have kn0 : (0 : Int) ≤ (k : Int) := by omega
            obtain ⟨c0, c1⟩ := SC.out _ (Fr.refl _ _)
            clear hx
            go_upto_region 18 with fail
            go_cut [14] (fun s14 wx => ∃ xb : Nat, s14 = .pointer (some ⟨xb, 0, none⟩) ∧ wx.heap[xb]? = some (.cells #[.bool pt, .int .i64 pn] 34 (0, 0)) ∧ Fr No wr wx ∧ wr.heap.size ≤ xb)
            case first =>
              go_region_held3 (fun W => (W.cell? ⟨ab, aoff, none⟩ = some (.bool pt) ∧ W.cell? ⟨ab, aoff + 1, none⟩ = some (.int .i64 xn))) (first | exact SC.out _ (Fr.refl _ _).drew | exact SC.out _ ((Fr.refl _ _).alloc _).drew | exact SC.out _ (((Fr.refl _ _).drew).alloc _) | go_keep) (fail)
              all_goals
                try go_wp2_with fail
                go_meet
                exact ⟨_, rfl, heap_alloc_new wr _, ((Fr.refl No wr).alloc _).drew, Nat.le_refl _⟩
            case rest =>
              obtain ⟨xb, rfl, rx, fx, lx⟩ := hcut
              have ltx := lt_of_heap rx
              obtain ⟨out1, X1, X2, q1, q2, q3, q4, q5⟩ := mv_step RM.out LF1.out HO.out HU.out HOU.out MV.out ⟨pt, pn⟩ pn1 pn2 (k : Int)
              dsimp only at q1 q2 q3 q4
              have Q3 := Lib.hid q3
              have Q4 := Lib.hid q4
              have Q5 := Lib.hid q5
              obtain ⟨Z2, hz2⟩ : ∃ Z2 : Nat → Prop, (fun k => Z1 k ∨ (wr.heap.size ≤ k ∧ k < wc.heap.size)) = Z2 := ⟨_, rfl⟩
              have H8 : Hid (BrZ Z2 wc bb rm lf X) := Lib.hid (by rw [← hz2]; exact H7.out.more fx)
              have ZL : Hid (∀ k, Z1 k → Z2 k) := Lib.hid (fun k hk => by rw [← hz2]; exact .inl hk)
              have ZW : Hid (∀ k, k < w.heap.size → Z2 k) := Lib.hid (fun k hk => ZL.out k (Z0.out k (Nat.lt_of_lt_of_le hk HF.out.size)))
              have ZX : Hid (Z2 xb) := Lib.hid (by rw [← hz2]; exact .inr ⟨lx, ltx⟩)
              have ZA2 := Lib.hid (ZL.out _ ZA.out)
              have ZB2 := Lib.hid (ZL.out _ ZB.out)
              have RX8 := Lib.hid rx
              have F8 := Lib.hid (F7.out.trans fx)
              have RA8 := Lib.hid (fx.heap RA7.out (fun h => h))
              have RB8 := Lib.hid (fx.heap RB7.out (fun h => h))
              clear hz2 rx fx lx ltx q3 q4 q5 H7 F7 RA7 RB7 MV SC c0 c1 ht hw1 hw2 hw3 hw4 hm hpn m0 m1
              generalize wc = w8 at H8 RX8 F8 RA8 RB8 ⊢
              have SF : Hid (∀ W, Fr (NZ Z2) w8 W → (W.cell? ⟨xb, 1, none⟩ = some (.int .i64 pn) ∧ W.cell? ⟨0, 0, none⟩ = some (.int .u8 255) ∧ W.cell? ⟨0, 1, none⟩ = some (.int .u8 255) ∧ W.cell? ⟨0, 2, none⟩ = some (.int .u8 255) ∧ W.cell? ⟨0, 3, none⟩ = some (.int .u8 255) ∧ W.cell? ⟨0, 4, none⟩ = some (.int .u8 255) ∧ W.cell? ⟨0, 5, none⟩ = some (.int .u8 255) ∧ W.cell? ⟨bA, 0, none⟩ = some (.int .u8 (v0.toNat : Int)) ∧ W.cell? ⟨bA, 1, none⟩ = some (.int .u8 (o1.toNat : Int)) ∧ W.cell? ⟨bA, 2, none⟩ = some (.int .u8 (o2.toNat : Int)) ∧ W.cell? ⟨bA, 3, none⟩ = some (.int .u8 (o3.toNat : Int)) ∧ W.cell? ⟨bA, 4, none⟩ = some (.int .u8 (o4.toNat : Int)) ∧ W.cell? ⟨bA, 5, none⟩ = some (.int .u8 (o5.toNat : Int)))) := Lib.hid (fun W f => by
                obtain ⟨-, x1⟩ := cells2 (f.heap RX8.out (fun h => h ZX.out))
                obtain ⟨e0, e1, e2, e3, e4, e5⟩ := (HGA.out.no F8.out).cells
                obtain ⟨d0, d1, d2, d3, d4, d5⟩ := cells6 (f.heap RA8.out (fun h => h ZA2.out))
                have lg := lt_of_cell (HGA.out.cells.1)
                have zg : ¬ NZ Z2 0 := fun h => h (ZW.out _ lg)
                exact ⟨x1, f.cell e0 zg, f.cell e1 zg, f.cell e2 zg, f.cell e3 zg, f.cell e4 zg, f.cell e5 zg, d0, d1, d2, d3, d4, d5⟩)
              have CF : Hid (∀ W, Calls Tryd.prog 10 #[.agg #[.int .u8 255, .int .u8 255, .int .u8 255, .int .u8 255, .int .u8 255, .int .u8 255], .agg #[.int .u8 (v0.toNat : Int), .int .u8 (o1.toNat : Int), .int .u8 (o2.toNat : Int), .int .u8 (o3.toNat : Int), .int .u8 (o4.toNat : Int), .int .u8 (o5.toNat : Int)]] W fun e w' => ∃ g, e = .returned (.slice (some ⟨g, 0, none⟩) 60 60) ∧ Bs w' (some ⟨g, 0, none⟩) 60 60 (frB mvAll ⟨v0, o1, o2, o3, o4, o5⟩) ∧ Fr No W w' ∧ W.heap.size ≤ g) := Lib.hid (fun W => frame_all ⟨v0, o1, o2, o3, o4, o5⟩ W)
              obtain ⟨x0, x1⟩ := cells2 RX8.out
              cases pt with
              | true =>
                have kw0 : 0 ≤ (k : Int) := by omega
                have kw1 : (k : Int) < 18446744073709551616 := by omega
                have Q : Hid (aFromTunnel rm lf X 0 pn (frB mvAll ⟨v0, o1, o2, o3, o4, o5⟩) (k : Int) = (out1, 0, X1)) := Lib.hid (q2 rfl)
                have CT : Hid (∀ W, Fr No w8 W → ∀ g, Bs W (some ⟨g, 0, none⟩) 60 60 (frB mvAll ⟨v0, o1, o2, o3, o4, o5⟩) → Calls Tryd.prog 9 #[.pointer (some ⟨bb, 0, none⟩), .int .i64 0, .int .i64 pn, .slice (some ⟨g, 0, none⟩) 60 60, .int .u64 (k : Int)] W (GoesZ Z2 W bb rm lf (out1, 0, X1))) := Lib.hid (fun W f g hb => bgFromTunnel_z (H8.out.no f) ⟨by omega, by omega⟩ hb kw0 kw1 Q.out)
                clear q1 q2 kw0 kw1 Q
                go_wp2_with fail
                go_region_held3 (fun W => (W.cell? ⟨xb, 1, none⟩ = some (.int .i64 pn) ∧ W.cell? ⟨0, 0, none⟩ = some (.int .u8 255) ∧ W.cell? ⟨0, 1, none⟩ = some (.int .u8 255) ∧ W.cell? ⟨0, 2, none⟩ = some (.int .u8 255) ∧ W.cell? ⟨0, 3, none⟩ = some (.int .u8 255) ∧ W.cell? ⟨0, 4, none⟩ = some (.int .u8 255) ∧ W.cell? ⟨0, 5, none⟩ = some (.int .u8 255) ∧ W.cell? ⟨bA, 0, none⟩ = some (.int .u8 (v0.toNat : Int)) ∧ W.cell? ⟨bA, 1, none⟩ = some (.int .u8 (o1.toNat : Int)) ∧ W.cell? ⟨bA, 2, none⟩ = some (.int .u8 (o2.toNat : Int)) ∧ W.cell? ⟨bA, 3, none⟩ = some (.int .u8 (o3.toNat : Int)) ∧ W.cell? ⟨bA, 4, none⟩ = some (.int .u8 (o4.toNat : Int)) ∧ W.cell? ⟨bA, 5, none⟩ = some (.int .u8 (o5.toNat : Int))))
                  (first | exact SF.out _ (Fr.refl _ _).drew | exact SF.out _ ((Fr.refl _ _).drew.trans f9.of_no) | exact SF.out _ (((Fr.refl _ _).drew.trans f9.of_no).trans f10) | go_keep)
                  (first | (go_at_call 10; refine (CF.out _).mono ?_; rintro e w9 ⟨g9, rfl, hb9, f9, -⟩) | (go_at_call 9; refine (CT.out _ ((Fr.refl No w8).drew.trans f9) _ hb9).mono ?_; rintro e w10 ⟨po, pc, qo, qc, rfl, cp, cq, h10, f10⟩))
                have FX : Fr (NZ Z2) w8 w10 := ((Fr.refl _ w8).drew.trans f9.of_no).trans f10
                have H10 := Lib.hid (h10.less (Z' := Z2) (fun k hk => .inl hk))
                have RA10 := Lib.hid (FX.heap RA8.out (fun h => h ZA2.out))
                have RB10 := Lib.hid (FX.heap RB8.out (fun h => h ZB2.out))
                have RX10 := Lib.hid (FX.heap RX8.out (fun h => h ZX.out))
                have F10 := Lib.hid (F8.out.then FX (fun i hi h => h (ZW.out i hi)))
                clear FX h10 f10 f9 hb9 cp cq CT H8 RA8 RB8 RX8 F8 SF
                obtain ⟨bn9, mn9, LN9, hbs, hfd, hab, -⟩ := bgBase_fd H10.out ok0
                have HBS := Lib.hid hbs
                have HQ : Hid (∀ W, Fr No w10 W → Calls Tryd.prog 12 #[.pointer (some ⟨bn9, 0, none⟩), .agg #[.int .u8 (v0.toNat : Int), .int .u8 (o1.toNat : Int), .int .u8 (o2.toNat : Int), .int .u8 (o3.toNat : Int), .int .u8 (o4.toNat : Int), .int .u8 (o5.toNat : Int)], .int .u64 (k : Int)] W fun e w' => e = .returned (.tuple #[.agg #[.bool true, .int .i64 pn], .bool true]) ∧ Fr No W w') := Lib.hid (fun W hW => fbFind_at (hfd.no hW) hab ⟨v0, o1, o2, o3, o4, o5⟩ (by omega) (by omega) Q3.out)
                clear hbs hfd hab
                have SG : Hid (∀ W, Fr No w10 W → (W.cell? ⟨bA, 0, none⟩ = some (.int .u8 (v0.toNat : Int)) ∧ W.cell? ⟨bA, 1, none⟩ = some (.int .u8 (o1.toNat : Int)) ∧ W.cell? ⟨bA, 2, none⟩ = some (.int .u8 (o2.toNat : Int)) ∧ W.cell? ⟨bA, 3, none⟩ = some (.int .u8 (o3.toNat : Int)) ∧ W.cell? ⟨bA, 4, none⟩ = some (.int .u8 (o4.toNat : Int)) ∧ W.cell? ⟨bA, 5, none⟩ = some (.int .u8 (o5.toNat : Int)))) := Lib.hid (fun W f => cells6 (f.heap RA10.out (fun h => h)))
                go_upto_region 23 with fail
                go_cut [16, 17] (fun s16 s17 wx => ∃ yb : Nat, s16 = .pointer (some ⟨yb, 0, none⟩) ∧ s17 = .bool true ∧ wx.heap[yb]? = some (.cells #[.bool true, .int .i64 pn] 34 (0, 0)) ∧ Fr No w10 wx ∧ w10.heap.size ≤ yb)
                case first =>
                  go_region_held3 (fun W => (W.cell? ⟨bA, 0, none⟩ = some (.int .u8 (v0.toNat : Int)) ∧ W.cell? ⟨bA, 1, none⟩ = some (.int .u8 (o1.toNat : Int)) ∧ W.cell? ⟨bA, 2, none⟩ = some (.int .u8 (o2.toNat : Int)) ∧ W.cell? ⟨bA, 3, none⟩ = some (.int .u8 (o3.toNat : Int)) ∧ W.cell? ⟨bA, 4, none⟩ = some (.int .u8 (o4.toNat : Int)) ∧ W.cell? ⟨bA, 5, none⟩ = some (.int .u8 (o5.toNat : Int))))
                    (first | exact SG.out _ (Fr.refl _ _).drew | exact SG.out _ ((Fr.refl _ _).alloc _).drew | exact SG.out _ (((Fr.refl _ _).drew).alloc _) | exact SG.out _ ((Fr.refl _ _).drew.trans f3) | exact SG.out _ ((((Fr.refl _ _).alloc _).drew).trans f3) | exact SG.out _ (((Fr.refl _ _).drew.trans f3).alloc _) | exact SG.out _ ((((Fr.refl _ _).drew).alloc _).trans f3) | exact SG.out _ (aft2a (w0 := w10) (Nat.le_refl _) f3 _ _).2.1 | exact SG.out _ (boxMA ((Fr.refl No _).drew) f3 _ _).2.1 | exact SG.out _ (boxMB ((Fr.refl No _).drew.trans f3) _ _).2.1 | go_keep)
                    (first | (go_at_call 6; refine (HBS.out _ (by first | exact (Fr.refl No _).drew | exact ((Fr.refl No _).alloc _).drew | exact ((Fr.refl No _).drew).alloc _ | exact Fr.refl No _)).mono ?_; rintro e w3 ⟨rfl, rfl⟩) | (go_at_call 12; refine (HQ.out _ (by first | exact (Fr.refl No _).drew | exact ((Fr.refl No _).alloc _).drew | exact ((Fr.refl No _).drew).alloc _ | exact Fr.refl No _)).mono ?_; rintro e w3 ⟨rfl, f3⟩; first | (have bx := box2 f3; obtain ⟨bx0, bx1, bx2, bx3⟩ := bx) | (have bx := boxMC f3; obtain ⟨bx0, bx1, bx2, bx3⟩ := bx) | skip))
                  all_goals
                    try go_wp2_with fail
                    go_meet
                    first
                    | (have h9 := aft2a (w0 := w10) (Nat.le_refl _) f3 (.bool true) (.int .i64 pn)
                       exact ⟨_, rfl, rfl, h9.1, h9.2.1, h9.2.2⟩)
                    | (have h9 := boxMA ((Fr.refl No _).drew) f3 (.bool true) (.int .i64 pn)
                       exact ⟨_, rfl, rfl, h9.1, h9.2.1, h9.2.2⟩)
                    | (have h9 := boxMB ((Fr.refl No _).drew.trans f3) (.bool true) (.int .i64 pn) (t := 34)
                       exact ⟨_, rfl, rfl, h9.1, h9.2.1, h9.2.2⟩)
                case rest =>
                  obtain ⟨yb, rfl, rfl, ry, fy, ly⟩ := hcut
                  have lty := lt_of_heap ry
                  obtain ⟨Z3, hz3⟩ : ∃ Z3 : Nat → Prop, (fun k => Z2 k ∨ (w10.heap.size ≤ k ∧ k < wc.heap.size)) = Z3 := ⟨_, rfl⟩
                  have H11 : Hid (BrZ Z3 wc bb rm lf X1) := Lib.hid (by rw [← hz3]; exact H10.out.more fy)
                  have Z23 : Hid (∀ k, Z2 k → Z3 k) := Lib.hid (fun k hk => by rw [← hz3]; exact .inl hk)
                  have ZY : Hid (Z3 yb) := Lib.hid (by rw [← hz3]; exact .inr ⟨ly, lty⟩)
                  have RY11 := Lib.hid ry
                  have F11 := Lib.hid (F10.out.trans fy)
                  have RA11 := Lib.hid (fy.heap RA10.out (fun h => h))
                  have RB11 := Lib.hid (fy.heap RB10.out (fun h => h))
                  have RX11 := Lib.hid (fy.heap RX10.out (fun h => h))
                  clear hz3 ry fy ly lty HQ SG HBS H10 F10 RA10 RB10 RX10
                  generalize wc = w11 at H11 RY11 F11 RA11 RB11 RX11 ⊢
                  obtain ⟨a0, a1, a2, a3, a4, a5⟩ := cells6 RA11.out
                  obtain ⟨b0, b1, b2, b3, b4, b5⟩ := cells6 RB11.out
                  go_wp2_with fail
                  refine (l16frame_any ⟨v0, o1, o2, o3, o4, o5⟩ ⟨v0, o1, o2, o3, o4, v5⟩ _).mono ?_
                  rintro e w12 ⟨g12, rfl, hb12, f12, -⟩
                  have H12 := Lib.hid (H11.out.no f12)
                  have F12 := Lib.hid (F11.out.trans f12)
                  have RA12 := Lib.hid (f12.heap RA11.out (fun h => h))
                  have RB12 := Lib.hid (f12.heap RB11.out (fun h => h))
                  have RX12 := Lib.hid (f12.heap RX11.out (fun h => h))
                  have RY12 := Lib.hid (f12.heap RY11.out (fun h => h))
                  have HB12 := Lib.hid hb12
                  clear H11 F11 RA11 RB11 RX11 RY11 f12 hb12 a0 a1 a2 a3 a4 a5 b0 b1 b2 b3 b4 b5
                  go_wp2_with fail
                  refine (bgFromPort_z H12.out (p := 5) ⟨by omega, by omega⟩ HB12.out (now := (k : Int)) (by omega) (by omega) Q4.out).mono ?_
                  rintro e w13 ⟨po, pc, qo, qc, rfl, cp, cq, h13, f13⟩
                  simp only [List.length_cons, List.length_nil, Nat.zero_add, if_true, Bool.false_eq_true, if_false] at cp cq h13 ⊢
                  obtain ⟨gp, rfl, -⟩ := cq.one_cell
                  have fo := (Fr.refl No w13).alloc (.cells #[.slice po 0 pc, .slice (some ⟨gp, 0, none⟩) 1 qc, .bool false] 37)
                  have RO := Lib.hid (heap_alloc_new w13 (.cells #[.slice po 0 pc, .slice (some ⟨gp, 0, none⟩) 1 qc, .bool false] 37))
                  have H14 := Lib.hid ((h13.less (Z' := Z1) (fun k hk => .inl (Z23.out k (ZL.out k hk)))).no fo)
                  have F14 := Lib.hid ((F12.out.then f13 (fun i hi h => h (Z23.out _ (ZW.out i hi)))).trans fo)
                  have RA14 := Lib.hid (fo.heap (f13.heap RA12.out (fun h => h (Z23.out _ ZA2.out))) (fun h => h))
                  have RB14 := Lib.hid (fo.heap (f13.heap RB12.out (fun h => h (Z23.out _ ZB2.out))) (fun h => h))
                  have RX14 := Lib.hid (fo.heap (f13.heap RX12.out (fun h => h (Z23.out _ ZX.out))) (fun h => h))
                  have RY14 := Lib.hid (fo.heap (f13.heap RY12.out (fun h => h ZY.out)) (fun h => h))
                  have CP14 := Lib.hid (cq.no fo)
                  clear H12 F12 RA12 RB12 RX12 RY12 HB12 cp cq h13 f13 fo
                  go_upto_region 25 with fail
                  generalize World.alloc _ _ = w14 at RO H14 F14 RA14 RB14 RX14 RY14 CP14 ⊢
                  generalize w13.heap.size = ob at RO ⊢
                  obtain ⟨x0, x1⟩ := cells2 RX14.out
                  obtain ⟨y0, y1⟩ := cells2 RY14.out
                  obtain ⟨s0, s1, s2⟩ := cells3 RO.out
                  obtain ⟨gq, hgq, u0⟩ := CP14.out.one_cell
                  cases hgq
                  have hpl : ∀ W, (binOp .neq 34 (.agg #[.bool true, .int .i64 pn]) (.agg #[.bool true, .int .i64 pn])).run Tryd.prog W = .ok (.bool false) W := fun W => by have h := neqPl ⟨true, pn⟩ ⟨true, pn⟩ W; rw [decide_eq_true rfl] at h; exact h
                  have epn : (pn != pn) = false := by simp
                  go_wp2_with fail
                  go_quiet (fail)
                  clear hpl epn x0 x1 y0 y1 s0 s1 s2 u0
                  go_wp2_with fail
                  go_roundw
                  case rel => exact ⟨k + 1, X2, by omega, by omega, by go_num, H14.out.no ((Fr.refl No _).drewN _), Q5.out, F14.out.drewN _, RA14.out, RB14.out⟩
                  case measure => simp [intOf]; omega
              | false =>
                have kw0 : 0 ≤ (k : Int) := by omega
                have kw1 : (k : Int) < 18446744073709551616 := by omega
                have Q : Hid (aFromPort rm lf X pn (frB mvAll ⟨v0, o1, o2, o3, o4, o5⟩) (k : Int) = (out1, 0, X1)) := Lib.hid (q1 rfl)
                have CT : Hid (∀ W, Fr No w8 W → ∀ g, Bs W (some ⟨g, 0, none⟩) 60 60 (frB mvAll ⟨v0, o1, o2, o3, o4, o5⟩) → Calls Tryd.prog 11 #[.pointer (some ⟨bb, 0, none⟩), .int .i64 pn, .slice (some ⟨g, 0, none⟩) 60 60, .int .u64 (k : Int)] W (GoesZ Z2 W bb rm lf (out1, 0, X1))) := Lib.hid (fun W f g hb => bgFromPort_z (H8.out.no f) ⟨by omega, by omega⟩ hb kw0 kw1 Q.out)
                clear q1 q2 kw0 kw1 Q
                go_wp2_with fail
                go_region_held3 (fun W => (W.cell? ⟨xb, 1, none⟩ = some (.int .i64 pn) ∧ W.cell? ⟨0, 0, none⟩ = some (.int .u8 255) ∧ W.cell? ⟨0, 1, none⟩ = some (.int .u8 255) ∧ W.cell? ⟨0, 2, none⟩ = some (.int .u8 255) ∧ W.cell? ⟨0, 3, none⟩ = some (.int .u8 255) ∧ W.cell? ⟨0, 4, none⟩ = some (.int .u8 255) ∧ W.cell? ⟨0, 5, none⟩ = some (.int .u8 255) ∧ W.cell? ⟨bA, 0, none⟩ = some (.int .u8 (v0.toNat : Int)) ∧ W.cell? ⟨bA, 1, none⟩ = some (.int .u8 (o1.toNat : Int)) ∧ W.cell? ⟨bA, 2, none⟩ = some (.int .u8 (o2.toNat : Int)) ∧ W.cell? ⟨bA, 3, none⟩ = some (.int .u8 (o3.toNat : Int)) ∧ W.cell? ⟨bA, 4, none⟩ = some (.int .u8 (o4.toNat : Int)) ∧ W.cell? ⟨bA, 5, none⟩ = some (.int .u8 (o5.toNat : Int))))
                  (first | exact SF.out _ (Fr.refl _ _).drew | exact SF.out _ ((Fr.refl _ _).drew.trans f9.of_no) | exact SF.out _ (((Fr.refl _ _).drew.trans f9.of_no).trans f10) | go_keep)
                  (first | (go_at_call 10; refine (CF.out _).mono ?_; rintro e w9 ⟨g9, rfl, hb9, f9, -⟩) | (go_at_call 11; refine (CT.out _ ((Fr.refl No w8).drew.trans f9) _ hb9).mono ?_; rintro e w10 ⟨po, pc, qo, qc, rfl, cp, cq, h10, f10⟩))
                have FX : Fr (NZ Z2) w8 w10 := ((Fr.refl _ w8).drew.trans f9.of_no).trans f10
                have H10 := Lib.hid (h10.less (Z' := Z2) (fun k hk => .inl hk))
                have RA10 := Lib.hid (FX.heap RA8.out (fun h => h ZA2.out))
                have RB10 := Lib.hid (FX.heap RB8.out (fun h => h ZB2.out))
                have RX10 := Lib.hid (FX.heap RX8.out (fun h => h ZX.out))
                have F10 := Lib.hid (F8.out.then FX (fun i hi h => h (ZW.out i hi)))
                clear FX h10 f10 f9 hb9 cp cq CT H8 RA8 RB8 RX8 F8 SF
                obtain ⟨bn9, mn9, LN9, hbs, hfd, hab, -⟩ := bgBase_fd H10.out ok0
                have HBS := Lib.hid hbs
                have HQ : Hid (∀ W, Fr No w10 W → Calls Tryd.prog 12 #[.pointer (some ⟨bn9, 0, none⟩), .agg #[.int .u8 (v0.toNat : Int), .int .u8 (o1.toNat : Int), .int .u8 (o2.toNat : Int), .int .u8 (o3.toNat : Int), .int .u8 (o4.toNat : Int), .int .u8 (o5.toNat : Int)], .int .u64 (k : Int)] W fun e w' => e = .returned (.tuple #[.agg #[.bool false, .int .i64 pn], .bool true]) ∧ Fr No W w') := Lib.hid (fun W hW => fbFind_at (hfd.no hW) hab ⟨v0, o1, o2, o3, o4, o5⟩ (by omega) (by omega) Q3.out)
                clear hbs hfd hab
                have SG : Hid (∀ W, Fr No w10 W → (W.cell? ⟨bA, 0, none⟩ = some (.int .u8 (v0.toNat : Int)) ∧ W.cell? ⟨bA, 1, none⟩ = some (.int .u8 (o1.toNat : Int)) ∧ W.cell? ⟨bA, 2, none⟩ = some (.int .u8 (o2.toNat : Int)) ∧ W.cell? ⟨bA, 3, none⟩ = some (.int .u8 (o3.toNat : Int)) ∧ W.cell? ⟨bA, 4, none⟩ = some (.int .u8 (o4.toNat : Int)) ∧ W.cell? ⟨bA, 5, none⟩ = some (.int .u8 (o5.toNat : Int)))) := Lib.hid (fun W f => cells6 (f.heap RA10.out (fun h => h)))
                go_upto_region 23 with fail
                go_cut [16, 17] (fun s16 s17 wx => ∃ yb : Nat, s16 = .pointer (some ⟨yb, 0, none⟩) ∧ s17 = .bool true ∧ wx.heap[yb]? = some (.cells #[.bool false, .int .i64 pn] 34 (0, 0)) ∧ Fr No w10 wx ∧ w10.heap.size ≤ yb)
                case first =>
                  go_region_held3 (fun W => (W.cell? ⟨bA, 0, none⟩ = some (.int .u8 (v0.toNat : Int)) ∧ W.cell? ⟨bA, 1, none⟩ = some (.int .u8 (o1.toNat : Int)) ∧ W.cell? ⟨bA, 2, none⟩ = some (.int .u8 (o2.toNat : Int)) ∧ W.cell? ⟨bA, 3, none⟩ = some (.int .u8 (o3.toNat : Int)) ∧ W.cell? ⟨bA, 4, none⟩ = some (.int .u8 (o4.toNat : Int)) ∧ W.cell? ⟨bA, 5, none⟩ = some (.int .u8 (o5.toNat : Int))))
                    (first | exact SG.out _ (Fr.refl _ _).drew | exact SG.out _ ((Fr.refl _ _).alloc _).drew | exact SG.out _ (((Fr.refl _ _).drew).alloc _) | exact SG.out _ ((Fr.refl _ _).drew.trans f3) | exact SG.out _ ((((Fr.refl _ _).alloc _).drew).trans f3) | exact SG.out _ (((Fr.refl _ _).drew.trans f3).alloc _) | exact SG.out _ ((((Fr.refl _ _).drew).alloc _).trans f3) | exact SG.out _ (aft2a (w0 := w10) (Nat.le_refl _) f3 _ _).2.1 | exact SG.out _ (boxMA ((Fr.refl No _).drew) f3 _ _).2.1 | exact SG.out _ (boxMB ((Fr.refl No _).drew.trans f3) _ _).2.1 | go_keep)
                    (first | (go_at_call 6; refine (HBS.out _ (by first | exact (Fr.refl No _).drew | exact ((Fr.refl No _).alloc _).drew | exact ((Fr.refl No _).drew).alloc _ | exact Fr.refl No _)).mono ?_; rintro e w3 ⟨rfl, rfl⟩) | (go_at_call 12; refine (HQ.out _ (by first | exact (Fr.refl No _).drew | exact ((Fr.refl No _).alloc _).drew | exact ((Fr.refl No _).drew).alloc _ | exact Fr.refl No _)).mono ?_; rintro e w3 ⟨rfl, f3⟩; first | (have bx := box2 f3; obtain ⟨bx0, bx1, bx2, bx3⟩ := bx) | (have bx := boxMC f3; obtain ⟨bx0, bx1, bx2, bx3⟩ := bx) | skip))
                  all_goals
                    try go_wp2_with fail
                    go_meet
                    first
                    | (have h9 := aft2a (w0 := w10) (Nat.le_refl _) f3 (.bool false) (.int .i64 pn)
                       exact ⟨_, rfl, rfl, h9.1, h9.2.1, h9.2.2⟩)
                    | (have h9 := boxMA ((Fr.refl No _).drew) f3 (.bool false) (.int .i64 pn)
                       exact ⟨_, rfl, rfl, h9.1, h9.2.1, h9.2.2⟩)
                    | (have h9 := boxMB ((Fr.refl No _).drew.trans f3) (.bool false) (.int .i64 pn) (t := 34)
                       exact ⟨_, rfl, rfl, h9.1, h9.2.1, h9.2.2⟩)
                case rest =>
                  obtain ⟨yb, rfl, rfl, ry, fy, ly⟩ := hcut
                  have lty := lt_of_heap ry
                  obtain ⟨Z3, hz3⟩ : ∃ Z3 : Nat → Prop, (fun k => Z2 k ∨ (w10.heap.size ≤ k ∧ k < wc.heap.size)) = Z3 := ⟨_, rfl⟩
                  have H11 : Hid (BrZ Z3 wc bb rm lf X1) := Lib.hid (by rw [← hz3]; exact H10.out.more fy)
                  have Z23 : Hid (∀ k, Z2 k → Z3 k) := Lib.hid (fun k hk => by rw [← hz3]; exact .inl hk)
                  have ZY : Hid (Z3 yb) := Lib.hid (by rw [← hz3]; exact .inr ⟨ly, lty⟩)
                  have RY11 := Lib.hid ry
                  have F11 := Lib.hid (F10.out.trans fy)
                  have RA11 := Lib.hid (fy.heap RA10.out (fun h => h))
                  have RB11 := Lib.hid (fy.heap RB10.out (fun h => h))
                  have RX11 := Lib.hid (fy.heap RX10.out (fun h => h))
                  clear hz3 ry fy ly lty HQ SG HBS H10 F10 RA10 RB10 RX10
                  generalize wc = w11 at H11 RY11 F11 RA11 RB11 RX11 ⊢
                  obtain ⟨a0, a1, a2, a3, a4, a5⟩ := cells6 RA11.out
                  obtain ⟨b0, b1, b2, b3, b4, b5⟩ := cells6 RB11.out
                  go_wp2_with fail
                  refine (l16frame_any ⟨v0, o1, o2, o3, o4, o5⟩ ⟨v0, o1, o2, o3, o4, v5⟩ _).mono ?_
                  rintro e w12 ⟨g12, rfl, hb12, f12, -⟩
                  have H12 := Lib.hid (H11.out.no f12)
                  have F12 := Lib.hid (F11.out.trans f12)
                  have RA12 := Lib.hid (f12.heap RA11.out (fun h => h))
                  have RB12 := Lib.hid (f12.heap RB11.out (fun h => h))
                  have RX12 := Lib.hid (f12.heap RX11.out (fun h => h))
                  have RY12 := Lib.hid (f12.heap RY11.out (fun h => h))
                  have HB12 := Lib.hid hb12
                  clear H11 F11 RA11 RB11 RX11 RY11 f12 hb12 a0 a1 a2 a3 a4 a5 b0 b1 b2 b3 b4 b5
                  go_wp2_with fail
                  refine (bgFromPort_z H12.out (p := 5) ⟨by omega, by omega⟩ HB12.out (now := (k : Int)) (by omega) (by omega) Q4.out).mono ?_
                  rintro e w13 ⟨po, pc, qo, qc, rfl, cp, cq, h13, f13⟩
                  simp only [List.length_cons, List.length_nil, Nat.zero_add, if_true, Bool.false_eq_true, if_false] at cp cq h13 ⊢
                  obtain ⟨gp, rfl, -⟩ := cp.one_cell
                  have fo := (Fr.refl No w13).alloc (.cells #[.slice (some ⟨gp, 0, none⟩) 1 pc, .slice qo 0 qc, .bool false] 37)
                  have RO := Lib.hid (heap_alloc_new w13 (.cells #[.slice (some ⟨gp, 0, none⟩) 1 pc, .slice qo 0 qc, .bool false] 37))
                  have H14 := Lib.hid ((h13.less (Z' := Z1) (fun k hk => .inl (Z23.out k (ZL.out k hk)))).no fo)
                  have F14 := Lib.hid ((F12.out.then f13 (fun i hi h => h (Z23.out _ (ZW.out i hi)))).trans fo)
                  have RA14 := Lib.hid (fo.heap (f13.heap RA12.out (fun h => h (Z23.out _ ZA2.out))) (fun h => h))
                  have RB14 := Lib.hid (fo.heap (f13.heap RB12.out (fun h => h (Z23.out _ ZB2.out))) (fun h => h))
                  have RX14 := Lib.hid (fo.heap (f13.heap RX12.out (fun h => h (Z23.out _ ZX.out))) (fun h => h))
                  have RY14 := Lib.hid (fo.heap (f13.heap RY12.out (fun h => h ZY.out)) (fun h => h))
                  have CP14 := Lib.hid (cp.no fo)
                  clear H12 F12 RA12 RB12 RX12 RY12 HB12 cp cq h13 f13 fo
                  go_upto_region 25 with fail
                  generalize World.alloc _ _ = w14 at RO H14 F14 RA14 RB14 RX14 RY14 CP14 ⊢
                  generalize w13.heap.size = ob at RO ⊢
                  obtain ⟨x0, x1⟩ := cells2 RX14.out
                  obtain ⟨y0, y1⟩ := cells2 RY14.out
                  obtain ⟨s0, s1, s2⟩ := cells3 RO.out
                  obtain ⟨gq, hgq, u0⟩ := CP14.out.one_cell
                  cases hgq
                  have hpl : ∀ W, (binOp .neq 34 (.agg #[.bool false, .int .i64 pn]) (.agg #[.bool false, .int .i64 pn])).run Tryd.prog W = .ok (.bool false) W := fun W => by have h := neqPl ⟨false, pn⟩ ⟨false, pn⟩ W; rw [decide_eq_true rfl] at h; exact h
                  have epn : (pn != pn) = false := by simp
                  go_wp2_with fail
                  go_quiet (fail)
                  clear hpl epn x0 x1 y0 y1 s0 s1 s2 u0
                  go_wp2_with fail
                  go_roundw
                  case rel => exact ⟨k + 1, X2, by omega, by omega, by go_num, H14.out.no ((Fr.refl No _).drewN _), Q5.out, F14.out.drewN _, RA14.out, RB14.out⟩
                  case measure => simp [intOf]; omega
        · have hst : ¬ k < n ∨ (k < n ∧ ¬ k < 30) := by omega
          rcases hst with l1 | ⟨l1, l2⟩
          all_goals
            go_wp2_with fail
            go_ret
            exact ⟨rfl, F7.out⟩
end Go.Proofs.YticebdoiahadoaaDoor
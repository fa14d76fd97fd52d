/- bridge laws: shown. -/
import Derived.Test.YticebdoiahadoaaBl2
namespace Go.Proofs.Yticebdoiahadoaa
open Go.RowKit
set_option linter.unusedVariables false
set_option linter.unusedSimpArgs false

def shM4 : Mac := ⟨4, 0, 0, 0, 0, 0⟩
def shM2 : Mac := ⟨2, 0, 0, 0, 0, 0⟩
def shX1 : AB := (aBind AB.new 1 0).2
def shX2 : AB := (aBind shX1 2 0).2
def shX3 : AB := (aBind shX2 3 1).2
def shX4 : AB := (aPeer shX3 0 5).2
def shX5 : AB := (aFromPort 8 100 shX4 1 (frB shM4 shM2) 1).2.2
def shX6 : AB := (aFromTunnel 8 100 shX5 0 5 (frB shM2 shM4) 2).2.2
def shX7 : AB := (aFromPort 8 100 shX6 1 (frB shM4 shM2) 3).2.2
theorem sh1 : aBind AB.new 1 0 = (0, shX1) := by rfl
theorem sh2 : aBind shX1 2 0 = (0, shX2) := by rfl
theorem sh3 : aBind shX2 3 1 = (0, shX3) := by rfl
theorem sh4 : aPeer shX3 0 5 = (0, shX4) := by rfl
theorem sh5 : aFromPort 8 100 shX4 1 (frB shM4 shM2) 1 = (⟨[2], [5], true⟩, 0, shX5) := by kernel_rfl
theorem sh6 : aFromTunnel 8 100 shX5 0 5 (frB shM2 shM4) 2 = (⟨[1], [], false⟩, 0, shX6) := by kernel_rfl
theorem sh7 : aFromPort 8 100 shX6 1 (frB shM4 shM2) 3 = (⟨[], [5], false⟩, 0, shX7) := by kernel_rfl
theorem sh8 : aFromPort 8 100 shX7 9 (frB shM4 shM2) 3 = (noOut, 6, shX7) := by kernel_rfl
theorem OI.one_cell {w : World} {ao : Option Addr} {c : Nat} {z : Int} (h : OI w ao 1 c [z]) : ∃ g, ao = some ⟨g, 0, none⟩ ∧ w.cell? ⟨g, 0, none⟩ = some (.int .i64 z) := by
  cases ao with
  | none =>
    have h1 := h.2.nocap rfl
    have h2 := h.2.le
    omega
  | some a =>
    obtain ⟨h1, -⟩ := h.2.row a rfl
    have h2 := h.sl.2.cell a rfl 0 (.int .i64 z) rfl
    obtain ⟨b, o, sp⟩ := a
    cases h1
    exact ⟨b, rfl, by rwa [Addr.add_lit] at h2⟩
theorem BrZ.box {Z : Nat → Prop} {w : World} {bb : Nat} {room life : Int} {X : AB} {po qo : Option Addr} (h : BrZ (fun k => Z k ∨ At po k ∨ At qo k) w bb room life X) (o : Obj) :
    ∃ Z', BrZ Z' (w.alloc o) bb room life X ∧ (∀ k, Z k → Z' k) ∧ (∀ a, po = some a → Z' a.block) ∧ (∀ a, qo = some a → Z' a.block) ∧ Z' w.heap.size :=
  ⟨_, h.more ((Fr.refl No w).alloc o), fun k hk => .inl (.inl hk), fun a ha => .inl (.inr (.inl ⟨a, ha, rfl⟩)), fun a ha => .inl (.inr (.inr ⟨a, ha, rfl⟩)), .inr ⟨Nat.le_refl _, by simp⟩⟩
set_option maxRecDepth 100000 in
set_option maxHeartbeats 4000000 in
theorem l16shown_any (w : World) : Calls Try.prog 10 #[] w fun e w' => e = .returned (.bool true) ∧ Fr No w w' := by
  go_enter Try.func10, Try.ntmps10
  go_wp2_with fail
  refine (bgNew_z w 8 100 (by omega) (by omega) (rm := 8) (by decide)).mono ?_
  rintro e w1 ⟨bb, rfl, h1, f1⟩
  obtain ⟨Z, hz⟩ : ∃ Z : Nat → Prop, (fun k => k < w.heap.size) = Z := ⟨_, rfl⟩
  have ZW := Lib.hid (fun i (hi : i < w.heap.size) => show Z i by rw [← hz]; exact hi)
  rw [hz] at h1
  clear hz
  have H := Lib.hid h1
  have FF := Lib.hid f1
  clear h1 f1
  go_wp2_with fail
  refine (bgBase_z H.out (n := 0) (by decide)).mono ?_
  rintro e w1' ⟨⟨tb, rfl⟩, rfl⟩
  go_wp2_with fail
  refine (bgBind_z H.out (p := 1) (t := 0) ⟨by omega, by omega⟩ sh1).mono ?_
  rintro e w2 ⟨rfl, h2, f2⟩
  have FF := Lib.hid (FF.out.then f2 (fun i hi h => h (ZW.out i hi)))
  have H := Lib.hid h2
  clear h2 f2
  go_wp2_with fail
  refine (bgBind_z H.out (p := 2) (t := 0) ⟨by omega, by omega⟩ sh2).mono ?_
  rintro e w2 ⟨rfl, h2, f2⟩
  have FF := Lib.hid (FF.out.then f2 (fun i hi h => h (ZW.out i hi)))
  have H := Lib.hid h2
  clear h2 f2
  go_wp2_with fail
  refine (bgBind_z H.out (p := 3) (t := 1) ⟨by omega, by omega⟩ sh3).mono ?_
  rintro e w2 ⟨rfl, h2, f2⟩
  have FF := Lib.hid (FF.out.then f2 (fun i hi h => h (ZW.out i hi)))
  have H := Lib.hid h2
  clear h2 f2
  go_wp2_with fail
  refine (bgPeer_z H.out (n := 0) (t := 5) ⟨by omega, by omega⟩ sh4).mono ?_
  rintro e w2 ⟨rfl, h2, f2⟩
  have FF := Lib.hid (FF.out.then f2 (fun i hi h => h (ZW.out i hi)))
  have H := Lib.hid h2
  clear h2 f2
  go_wp2_with fail
  refine (l16frame_any shM4 shM2 _).mono ?_
  rintro e w3 ⟨g3, rfl, hb3, f3, -⟩
  have H := Lib.hid (H.out.no f3)
  have FF := Lib.hid (FF.out.trans f3)
  have HB := Lib.hid hb3
  clear hb3 f3
  go_wp2_with fail
  refine (bgFromPort_z H.out (p := 1) ⟨by omega, by omega⟩ HB.out (now := 1) (by omega) (by omega) sh5).mono ?_
  rintro e w4 ⟨po5, pc5, qo5, qc5, rfl, cp, cq, h4, f4⟩
  clear HB
  have FF := Lib.hid (FF.out.then f4 (fun i hi h => h (ZW.out i hi)))
  dsimp only [noOut] at cp cq h4 ⊢
  simp only [List.length_cons, List.length_nil, Nat.zero_add] at cp cq ⊢
  obtain ⟨gp5, rfl, -⟩ := cp.one_cell
  obtain ⟨gq5, rfl, -⟩ := cq.one_cell
  obtain ⟨Z2, h5, z1, z2, z3, z4⟩ := h4.box (.cells #[.slice (some ⟨gp5, 0, none⟩) 1 pc5, .slice (some ⟨gq5, 0, none⟩) 1 qc5, .bool true] 34)
  have fa := (Fr.refl No w4).alloc (.cells #[.slice (some ⟨gp5, 0, none⟩) 1 pc5, .slice (some ⟨gq5, 0, none⟩) 1 qc5, .bool true] 34)
  have hn := heap_alloc_new w4 (.cells #[.slice (some ⟨gp5, 0, none⟩) 1 pc5, .slice (some ⟨gq5, 0, none⟩) 1 qc5, .bool true] 34)
  have ZW := Lib.hid (fun i (hi : i < w.heap.size) => z1 i (ZW.out i hi))
  have CP5 := Lib.hid (cp.no fa)
  have ZP5 := Lib.hid z2
  have CQ5 := Lib.hid (cq.no fa)
  have ZQ5 := Lib.hid z3
  have RB5 := Lib.hid hn
  have ZB5 := Lib.hid z4
  have H := Lib.hid h5
  have FF := Lib.hid (FF.out.trans fa)
  clear cp cq h4 f4 h5 z1 z2 z3 z4 fa hn
  go_wp2_with fail
  generalize World.alloc _ _ = wz at RB5 H FF  CP5 CQ5 ⊢
  generalize w4.heap.size = bk5 at RB5 ZB5 ⊢
  go_wp2_with fail
  refine (l16frame_any shM2 shM4 _).mono ?_
  rintro e w3 ⟨g3, rfl, hb3, f3, -⟩
  have H := Lib.hid (H.out.no f3)
  have FF := Lib.hid (FF.out.trans f3)
  have RB5 := Lib.hid (f3.heap RB5.out (fun h => h))
  have CP5 := Lib.hid (CP5.out.no f3)
  have CQ5 := Lib.hid (CQ5.out.no f3)
  have HB := Lib.hid hb3
  clear hb3 f3
  go_wp2_with fail
  refine (bgFromTunnel_z H.out (i := 0) (t := 5) ⟨by omega, by omega⟩ HB.out (now := 2) (by omega) (by omega) sh6).mono ?_
  rintro e w4 ⟨po6, pc6, qo6, qc6, rfl, cp, cq, h4, f4⟩
  clear HB
  have FF := Lib.hid (FF.out.then f4 (fun i hi h => h (ZW.out i hi)))
  have RB5 := Lib.hid (f4.heap RB5.out (fun h => h ZB5.out))
  have CP5 := Lib.hid (CP5.out.fr f4 (fun a ha h => h (ZP5.out a ha)))
  have CQ5 := Lib.hid (CQ5.out.fr f4 (fun a ha h => h (ZQ5.out a ha)))
  dsimp only [noOut] at cp cq h4 ⊢
  simp only [List.length_cons, List.length_nil, Nat.zero_add] at cp cq ⊢
  obtain ⟨gp6, rfl, -⟩ := cp.one_cell
  obtain ⟨Z2, h5, z1, z2, z3, z4⟩ := h4.box (.cells #[.slice (some ⟨gp6, 0, none⟩) 1 pc6, .slice qo6 0 qc6, .bool false] 34)
  have fa := (Fr.refl No w4).alloc (.cells #[.slice (some ⟨gp6, 0, none⟩) 1 pc6, .slice qo6 0 qc6, .bool false] 34)
  have hn := heap_alloc_new w4 (.cells #[.slice (some ⟨gp6, 0, none⟩) 1 pc6, .slice qo6 0 qc6, .bool false] 34)
  have ZW := Lib.hid (fun i (hi : i < w.heap.size) => z1 i (ZW.out i hi))
  have RB5 := Lib.hid (fa.heap RB5.out (fun h => h))
  have ZB5 := Lib.hid (z1 _ ZB5.out)
  have CP5 := Lib.hid (CP5.out.no fa)
  have ZP5 := Lib.hid (fun a ha => z1 _ (ZP5.out a ha))
  have CQ5 := Lib.hid (CQ5.out.no fa)
  have ZQ5 := Lib.hid (fun a ha => z1 _ (ZQ5.out a ha))
  have CP6 := Lib.hid (cp.no fa)
  have ZP6 := Lib.hid z2
  have RB6 := Lib.hid hn
  have ZB6 := Lib.hid z4
  have H := Lib.hid h5
  have FF := Lib.hid (FF.out.trans fa)
  clear cp cq h4 f4 h5 z1 z2 z3 z4 fa hn
  go_wp2_with fail
  generalize World.alloc _ _ = wz at RB6 H FF RB5 CP5 CP6 CQ5 ⊢
  generalize w4.heap.size = bk6 at RB6 ZB6 ⊢
  go_wp2_with fail
  refine (l16frame_any shM4 shM2 _).mono ?_
  rintro e w3 ⟨g3, rfl, hb3, f3, -⟩
  have H := Lib.hid (H.out.no f3)
  have FF := Lib.hid (FF.out.trans f3)
  have RB5 := Lib.hid (f3.heap RB5.out (fun h => h))
  have CP5 := Lib.hid (CP5.out.no f3)
  have CQ5 := Lib.hid (CQ5.out.no f3)
  have RB6 := Lib.hid (f3.heap RB6.out (fun h => h))
  have CP6 := Lib.hid (CP6.out.no f3)
  have HB := Lib.hid hb3
  clear hb3 f3
  go_wp2_with fail
  refine (bgFromPort_z H.out (p := 1) ⟨by omega, by omega⟩ HB.out (now := 3) (by omega) (by omega) sh7).mono ?_
  rintro e w4 ⟨po7, pc7, qo7, qc7, rfl, cp, cq, h4, f4⟩
  clear HB
  have FF := Lib.hid (FF.out.then f4 (fun i hi h => h (ZW.out i hi)))
  have RB5 := Lib.hid (f4.heap RB5.out (fun h => h ZB5.out))
  have CP5 := Lib.hid (CP5.out.fr f4 (fun a ha h => h (ZP5.out a ha)))
  have CQ5 := Lib.hid (CQ5.out.fr f4 (fun a ha h => h (ZQ5.out a ha)))
  have RB6 := Lib.hid (f4.heap RB6.out (fun h => h ZB6.out))
  have CP6 := Lib.hid (CP6.out.fr f4 (fun a ha h => h (ZP6.out a ha)))
  dsimp only [noOut] at cp cq h4 ⊢
  simp only [List.length_cons, List.length_nil, Nat.zero_add] at cp cq ⊢
  obtain ⟨gq7, rfl, -⟩ := cq.one_cell
  obtain ⟨Z2, h5, z1, z2, z3, z4⟩ := h4.box (.cells #[.slice po7 0 pc7, .slice (some ⟨gq7, 0, none⟩) 1 qc7, .bool false] 34)
  have fa := (Fr.refl No w4).alloc (.cells #[.slice po7 0 pc7, .slice (some ⟨gq7, 0, none⟩) 1 qc7, .bool false] 34)
  have hn := heap_alloc_new w4 (.cells #[.slice po7 0 pc7, .slice (some ⟨gq7, 0, none⟩) 1 qc7, .bool false] 34)
  have ZW := Lib.hid (fun i (hi : i < w.heap.size) => z1 i (ZW.out i hi))
  have RB5 := Lib.hid (fa.heap RB5.out (fun h => h))
  have ZB5 := Lib.hid (z1 _ ZB5.out)
  have CP5 := Lib.hid (CP5.out.no fa)
  have ZP5 := Lib.hid (fun a ha => z1 _ (ZP5.out a ha))
  have CQ5 := Lib.hid (CQ5.out.no fa)
  have ZQ5 := Lib.hid (fun a ha => z1 _ (ZQ5.out a ha))
  have RB6 := Lib.hid (fa.heap RB6.out (fun h => h))
  have ZB6 := Lib.hid (z1 _ ZB6.out)
  have CP6 := Lib.hid (CP6.out.no fa)
  have ZP6 := Lib.hid (fun a ha => z1 _ (ZP6.out a ha))
  have CQ7 := Lib.hid (cq.no fa)
  have ZQ7 := Lib.hid z3
  have RB7 := Lib.hid hn
  have ZB7 := Lib.hid z4
  have H := Lib.hid h5
  have FF := Lib.hid (FF.out.trans fa)
  clear cp cq h4 f4 h5 z1 z2 z3 z4 fa hn
  go_wp2_with fail
  generalize World.alloc _ _ = wz at RB7 H FF RB5 RB6 CP5 CP6 CQ5 CQ7 ⊢
  generalize w4.heap.size = bk7 at RB7 ZB7 ⊢
  go_wp2_with fail
  refine (l16frame_any shM4 shM2 _).mono ?_
  rintro e w3 ⟨g3, rfl, hb3, f3, -⟩
  have H := Lib.hid (H.out.no f3)
  have FF := Lib.hid (FF.out.trans f3)
  have RB5 := Lib.hid (f3.heap RB5.out (fun h => h))
  have CP5 := Lib.hid (CP5.out.no f3)
  have CQ5 := Lib.hid (CQ5.out.no f3)
  have RB6 := Lib.hid (f3.heap RB6.out (fun h => h))
  have CP6 := Lib.hid (CP6.out.no f3)
  have RB7 := Lib.hid (f3.heap RB7.out (fun h => h))
  have CQ7 := Lib.hid (CQ7.out.no f3)
  have HB := Lib.hid hb3
  clear hb3 f3
  go_wp2_with fail
  refine (bgFromPort_z H.out (p := 9) ⟨by omega, by omega⟩ HB.out (now := 3) (by omega) (by omega) sh8).mono ?_
  rintro e w4 ⟨po8, pc8, qo8, qc8, rfl, cp, cq, h4, f4⟩
  clear HB
  have FF := Lib.hid (FF.out.then f4 (fun i hi h => h (ZW.out i hi)))
  have RB5 := Lib.hid (f4.heap RB5.out (fun h => h ZB5.out))
  have CP5 := Lib.hid (CP5.out.fr f4 (fun a ha h => h (ZP5.out a ha)))
  have CQ5 := Lib.hid (CQ5.out.fr f4 (fun a ha h => h (ZQ5.out a ha)))
  have RB6 := Lib.hid (f4.heap RB6.out (fun h => h ZB6.out))
  have CP6 := Lib.hid (CP6.out.fr f4 (fun a ha h => h (ZP6.out a ha)))
  have RB7 := Lib.hid (f4.heap RB7.out (fun h => h ZB7.out))
  have CQ7 := Lib.hid (CQ7.out.fr f4 (fun a ha h => h (ZQ7.out a ha)))
  dsimp only [noOut] at cp cq h4 ⊢
  simp only [List.length_cons, List.length_nil, Nat.zero_add] at cp cq ⊢
  obtain ⟨Z2, h5, z1, z2, z3, z4⟩ := h4.box (.cells #[.slice po8 0 pc8, .slice qo8 0 qc8, .bool false] 34)
  have fa := (Fr.refl No w4).alloc (.cells #[.slice po8 0 pc8, .slice qo8 0 qc8, .bool false] 34)
  have hn := heap_alloc_new w4 (.cells #[.slice po8 0 pc8, .slice qo8 0 qc8, .bool false] 34)
  have ZW := Lib.hid (fun i (hi : i < w.heap.size) => z1 i (ZW.out i hi))
  have RB5 := Lib.hid (fa.heap RB5.out (fun h => h))
  have ZB5 := Lib.hid (z1 _ ZB5.out)
  have CP5 := Lib.hid (CP5.out.no fa)
  have ZP5 := Lib.hid (fun a ha => z1 _ (ZP5.out a ha))
  have CQ5 := Lib.hid (CQ5.out.no fa)
  have ZQ5 := Lib.hid (fun a ha => z1 _ (ZQ5.out a ha))
  have RB6 := Lib.hid (fa.heap RB6.out (fun h => h))
  have ZB6 := Lib.hid (z1 _ ZB6.out)
  have CP6 := Lib.hid (CP6.out.no fa)
  have ZP6 := Lib.hid (fun a ha => z1 _ (ZP6.out a ha))
  have RB7 := Lib.hid (fa.heap RB7.out (fun h => h))
  have ZB7 := Lib.hid (z1 _ ZB7.out)
  have CQ7 := Lib.hid (CQ7.out.no fa)
  have ZQ7 := Lib.hid (fun a ha => z1 _ (ZQ7.out a ha))
  have FF := Lib.hid (FF.out.trans fa)
  obtain ⟨r50, r51, r52⟩ := cells3 RB5.out
  obtain ⟨gg, hgg, p50⟩ := CP5.out.one_cell
  cases hgg
  obtain ⟨gg, hgg, q50⟩ := CQ5.out.one_cell
  cases hgg
  obtain ⟨r60, r61, r62⟩ := cells3 RB6.out
  obtain ⟨gg, hgg, p60⟩ := CP6.out.one_cell
  cases hgg
  obtain ⟨r70, r71, r72⟩ := cells3 RB7.out
  obtain ⟨gg, hgg, q70⟩ := CQ7.out.one_cell
  cases hgg
  clear cp cq h4 f4 h5 z1 z2 z3 z4 hn fa
  go_wp2_with fail
  go_ret
  exact ⟨rfl, FF.out⟩
end Go.Proofs.Yticebdoiahadoaa

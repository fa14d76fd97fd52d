/- GreOnce: its walk. -/
import Derived.Test.YtghjcgpdmlfmjaaLawGreOrder
namespace Go.Proofs.Ytghjcgpdmlfmjaa
open Go.RowKit
set_option linter.unusedVariables false

theorem acc_same (x : Nat) (hx : x < 4294967296) : acc (some x) x = false := by
  simp [acc]
theorem acc_back (x : Nat) (hx : x < 4294967296) : acc (some x) ((x + 4294967295) % 4294967296) = false := by
  have : ((x + 4294967295) % 4294967296 + 4294967296 - x) % 4294967296 = 4294967295 := by omega
  simp [acc, this]
theorem acc_next (x : Nat) (hx : x < 4294967296) : acc (some x) ((x + 1) % 4294967296) = true := by
  have : ((x + 1) % 4294967296 + 4294967296 - x) % 4294967296 = 1 := by omega
  simp [acc, this]

/-- What holds at each round. -/
def OI (w2 : World) (oa n : Nat) (t : Value) (wr : World) : Prop :=
  ∃ (k : Nat) (st : Option Nat), t = .int .i64 k ∧ k ≤ n ∧ k ≤ 200 ∧ (∀ y, st = some y → y < 4294967296) ∧ (k = 0 → st = none) ∧ Od wr oa st ∧ Fr (Is oa) w2 wr

set_option maxHeartbeats 1600000 in
set_option maxRecDepth 100000 in
theorem GreOnce_walk {w : World} {ao : Option Addr} {n cap : Nat} {us : List Nat} (hu : Us w ao n cap us) :
    Calls Try.prog 11 #[.slice ao n cap] w (LawOk w) := by
  have hle := hu.2.1.le
  have hcc := hu.2.1.capLe
  have HU := Lib.hid hu
  clear hu
  go_enter Try.func11, Try.ntmps11
  go_wp2_with (go_at_call 18; refine (shown13_any _).mono ?_; rintro e w1 ⟨rfl, f1⟩; have F1 := Lib.hid f1; clear f1)
  have fa := (Fr.refl No w1).alloc (.cells #[.pointer none] 49)
  have O2 : Hid (Od (w1.alloc (.cells #[.pointer none] 49)) w1.heap.size none) := Lib.hid (heap_alloc_new w1 _)
  have F2 := Lib.hid (F1.out.then_no fa)
  obtain ⟨oa, hoa⟩ : ∃ oa, oa = w1.heap.size := ⟨_, rfl⟩
  have hoa1 : w.heap.size ≤ oa := by rw [hoa]; exact F1.out.size
  rw [← hoa] at O2 ⊢
  generalize w1.alloc (.cells #[.pointer none] 49) = w2 at *
  clear fa F1 hoa
  go_loopw [5] (fun t wr => OI w2 oa n t wr) (fun t _ => n - (intOf t).toNat)
  case atStart => exact ⟨0, none, rfl, by omega, by omega, by simp, fun _ => rfl, O2.out, Fr.refl _ _⟩
  case round =>
    obtain ⟨k, st, rfl, hk, hk2, hst, hst0, ho, hf⟩ := hrel
    have FR := Lib.hid (F2.out.then hf (by rintro i hi rfl; omega))
    by_cases hlt : k < n ∧ k < 200
    · obtain ⟨a, x, rfl, hx, hx2, hc⟩ := (HU.out.fr FR.out (Out.no _)).at k hlt.1
      have hlt1 := hlt.1
      have hlt2 := hlt.2
      have hbl : a.block < w.heap.size := by
        have := (HU.out).at k hlt.1
        obtain ⟨a', _, ha', _, _, hc'⟩ := this
        cases ha'
        have := World.block_lt_of_cell? w _ hc'
        rw [Addr.add_block] at this; exact this
      have OD := Lib.hid ho
      have HF := Lib.hid hf
      have HX := Lib.hid hx
      have hne : ¬ Is oa (a.add k).block := by rw [Addr.add_block]; simp only [Is]; omega
      have HNE := Lib.hid hne
      have H0 := Lib.hid hst0
      clear ho hf hx hlt O2 hne hst0
      go_wp2_with fail
      refine (accept_any OD.out hx2 hst).mono ?_
      rintro e w5 ⟨rfl, o5, f5⟩
      have hc5 := f5.cell hc HNE.out
      have F5 := Lib.hid (HF.out.trans f5)
      clear f5 OD hc HF
      by_cases ha : acc st x = true
      · have OD5 : Hid (Od w5 oa (some x)) := Lib.hid (by unfold accNext at o5; rw [if_pos ha] at o5; exact o5)
        rw [ha]
        clear o5 ha
        have hxs : ∀ y, some x = some y → y < 4294967296 := by intro y hy; cases hy; exact hx2
        have HXS := Lib.hid hxs
        clear hxs
        go_wp2_with fail
        refine (accept_any OD5.out hx2 HXS.out).mono ?_
        rintro e w6 ⟨rfl, o6, f6⟩
        rw [acc_same x hx2]
        have OD6 : Hid (Od w6 oa (some x)) := Lib.hid (by unfold accNext at o6; rw [if_neg (by rw [acc_same x hx2]; decide)] at o6; exact o6)
        have hc6 := f6.cell hc5 HNE.out
        have F6 := Lib.hid (F5.out.trans f6)
        clear o6 f6 OD5 hc5 F5
        obtain ⟨xm, hxm⟩ : ∃ xm, xm = (x + 4294967295) % 4294967296 := ⟨_, rfl⟩
        have hw1 : IntKind.u32.wrap ((x : Int) - 1) = (xm : Int) := by rw [IntKind.wrap_u32]; omega
        have hm2 : xm < 4294967296 := by omega
        have HM := Lib.hid (show acc (some x) xm = false by rw [hxm]; exact acc_back x hx2)
        clear hxm
        go_wp2_with fail
        refine (accept_any OD6.out hm2 HXS.out).mono ?_
        rintro e w7 ⟨rfl, o7, f7⟩
        rw [HM.out]
        have OD7 : Hid (Od w7 oa (some x)) := Lib.hid (by unfold accNext at o7; rw [if_neg (by rw [HM.out]; decide)] at o7; exact o7)
        have hc7 := f7.cell hc6 HNE.out
        have F7 := Lib.hid (F6.out.trans f7)
        clear o7 f7 OD6 hc6 F6 HM hw1
        obtain ⟨xp, hxp⟩ : ∃ xp, xp = (x + 1) % 4294967296 := ⟨_, rfl⟩
        have hw2 : IntKind.u32.wrap ((x : Int) + 1) = (xp : Int) := by rw [IntKind.wrap_u32]; omega
        have hp2 : xp < 4294967296 := by omega
        have HP := Lib.hid (show acc (some x) xp = true by rw [hxp]; exact acc_next x hx2)
        clear hxp
        go_wp2_with fail
        refine (accept_any OD7.out hp2 HXS.out).mono ?_
        rintro e w8 ⟨rfl, o8, f8⟩
        rw [HP.out]
        have OD8 : Hid (Od w8 oa (some xp)) := Lib.hid (by unfold accNext at o8; rw [if_pos HP.out] at o8; exact o8)
        have F8 := Lib.hid (F7.out.trans f8)
        clear o8 f8 OD7 hc7 F7 HP hw2
        go_wp2_with fail
        go_roundw
        case rel => exact ⟨k + 1, some xp, by go_num, by omega, by omega, by intro y hy; cases hy; exact hp2, by omega, OD8.out, F8.out⟩
        case measure => simp [intOf]; omega
      · have hk0 : k ≠ 0 := by
          intro h
          rw [H0.out h] at ha
          exact ha rfl
        have haf : acc st x = false := by simpa using ha
        have OD5 : Hid (Od w5 oa st) := Lib.hid (by unfold accNext at o5; rw [if_neg ha] at o5; exact o5)
        rw [haf]
        have hkz : ((k : Int) == 0) = false := by simp; omega
        clear o5 ha haf
        go_wp2_with fail
        go_roundw
        case rel => exact ⟨k + 1, st, by go_num, by omega, by omega, hst, by omega, OD5.out, F5.out⟩
        case measure => simp [intOf]; omega
    · have hn : n ≤ k ∨ 200 ≤ k := by omega
      clear hlt ho hf
      rcases hn with h | h
      · go_wp2_with fail
        go_ret
        exact ⟨rfl, FR.out⟩
      · go_wp2_with fail
        all_goals go_ret
        all_goals exact ⟨rfl, FR.out⟩

end Go.Proofs.Ytghjcgpdmlfmjaa

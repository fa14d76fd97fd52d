/- tunnel: right. -/
import Derived.Test.YthoppkklooomgaaTnM
namespace Go.Proofs.Ythoppkklooomgaa
open Go.RowKit
set_option linter.unusedVariables false
set_option linter.unusedSimpArgs false
/-- A tunnel's options and known ones are read. -/
structure TnRd (w : World) (t : Tn) (oo : Option Addr) (on oc : Nat) (ko : Option Addr) (kn kc : Nat) : Prop where
  ok : t.ok
  os : Rs w oo on oc t.os
  ks : Us w ko kn kc t.ks
  om : on ≤ 4398046511104
  km : kn ≤ mostU
theorem TnRd.no {w w' : World} {t : Tn} {oo : Option Addr} {on oc : Nat} {ko : Option Addr} {kn kc : Nat} (h : TnRd w t oo on oc ko kn kc) (hf : Fr No w w') : TnRd w' t oo on oc ko kn kc :=
  ⟨h.ok, h.os.no hf, h.ks.no hf, h.om, h.km⟩
def BoolNo (w : World) (b : Bool) (e : Ending) (w' : World) : Prop := e = .returned (.bool b) ∧ Fr No w w'
theorem rightT_no {t : Tn} (h : ¬ RightT t) : rightT t = false := by unfold rightT; exact decide_eq_false h
theorem rightT_yes {t : Tn} (h : RightT t) : rightT t = true := by unfold rightT; exact decide_eq_true h
theorem cells9 {w : World} {b t : Nat} {c0 c1 c2 c3 c4 c5 c6 c7 c8 : Value} {f : Nat × Nat} (h : w.heap[b]? = some (.cells #[c0, c1, c2, c3, c4, c5, c6, c7, c8] t f)) :
    w.cell? ⟨b, 0, none⟩ = some c0 ∧ w.cell? ⟨b, 1, none⟩ = some c1 ∧ w.cell? ⟨b, 2, none⟩ = some c2 ∧ w.cell? ⟨b, 3, none⟩ = some c3 ∧ w.cell? ⟨b, 4, none⟩ = some c4 ∧ w.cell? ⟨b, 5, none⟩ = some c5 ∧ w.cell? ⟨b, 6, none⟩ = some c6 ∧ w.cell? ⟨b, 7, none⟩ = some c7 ∧ w.cell? ⟨b, 8, none⟩ = some c8 := by
  refine ⟨?_, ?_, ?_, ?_, ?_, ?_, ?_, ?_, ?_⟩ <;> (rw [cell_of_row w b _ _ _ _ h]; rfl)

set_option maxRecDepth 100000 in
set_option maxHeartbeats 1600000 in
theorem tnRight_any {w : World} {t : Tn} {oo : Option Addr} {on oc : Nat} {ko : Option Addr} {kn kc : Nat} (h : TnRd w t oo on oc ko kn kc) :
    Calls Try.prog 20 #[.agg #[.int .i64 t.kind, .int .u32 (t.loc : Int), .int .u32 (t.pee : Int), .int .u32 (t.id : Int), .int .i64 t.seg, .slice oo on oc, .slice ko kn kc, .bool t.sum, .bool t.seq]] w (BoolNo w (rightT t)) := by
  obtain ⟨r, hr⟩ : ∃ r, rightT t = r := ⟨_, rfl⟩
  rw [hr]
  have HR := Lib.hid hr
  have HO := Lib.hid h.os
  have HM := Lib.hid h.om
  have HN := Lib.hid h.os.len
  have X0 := Lib.hid (heap_alloc_new w (.cells #[.int .i64 t.kind, .int .u32 (t.loc : Int), .int .u32 (t.pee : Int), .int .u32 (t.id : Int), .int .i64 t.seg, .slice oo on oc, .slice ko kn kc, .bool t.sum, .bool t.seq] 27))
  have F0 := Lib.hid ((Fr.refl No w).alloc (.cells #[.int .i64 t.kind, .int .u32 (t.loc : Int), .int .u32 (t.pee : Int), .int .u32 (t.id : Int), .int .i64 t.seg, .slice oo on oc, .slice ko kn kc, .bool t.sum, .bool t.seq] 27))
  have hg1 := h.os.le
  have hg2 := h.os.capLe
  clear h hr
  obtain ⟨kind, loc, pee, id, seg, os, ks, sum, seq⟩ := t
  simp only at HR HO HN X0 F0 ⊢
  by_cases h1 : loc = 0
  · obtain rfl : r = false := HR.out.symm.trans (rightT_no (fun h => h.1 h1))
    subst h1
    clear HR
    go_enter Try.func20, Try.ntmps20
    go_wp2
    go_ret
    exact ⟨rfl, F0.out⟩
  have b1 : ((loc : Int) == 0) = false := by simp; omega
  by_cases h2 : pee = 0
  · obtain rfl : r = false := HR.out.symm.trans (rightT_no (fun h => h.2.1 h2))
    subst h2
    clear HR h1
    go_enter Try.func20, Try.ntmps20
    go_wp2
    go_ret
    exact ⟨rfl, F0.out⟩
  have b2 : ((pee : Int) == 0) = false := by simp; omega
  by_cases h3 : seg < 0
  · obtain rfl : r = false := HR.out.symm.trans (rightT_no (fun h => by have := h.2.2.1; simp only at this; omega))
    clear HR h1 h2
    go_enter Try.func20, Try.ntmps20
    go_wp2
    go_ret
    exact ⟨rfl, F0.out⟩
  by_cases h4 : 8 ≤ seg
  · obtain rfl : r = false := HR.out.symm.trans (rightT_no (fun h => by have := h.2.2.2.1; simp only at this; omega))
    clear HR h1 h2
    go_enter Try.func20, Try.ntmps20
    go_wp2
    go_ret
    exact ⟨rfl, F0.out⟩
  obtain ⟨c, hc⟩ : ∃ c, rightN os = c := ⟨_, rfl⟩
  by_cases h5 : c = 0
  · subst h5
    have HC := Lib.hid hc
    have HK : Hid (∀ W, Fr No w W → Calls Try.prog 29 #[.slice oo on oc] W fun e w' => e = .returned .nilIface ∧ Fr No W w') := Lib.hid (fun W f => by
      refine (right_big (HO.out.no f) HM.out).mono ?_
      rw [HC.out]
      rintro e w' (⟨-, rfl, hf⟩ | ⟨h0, -⟩)
      · exact ⟨rfl, hf⟩
      · exact absurd rfl h0)
    have H1 := Lib.hid h1
    have H2 := Lib.hid h2
    have hb : ¬ 8 ≤ seg := h4
    clear hc h1 h2
    have hiff : RightT ⟨kind, loc, pee, id, seg, os, ks, sum, seq⟩ ↔ ((kind = 1 ∧ on = 0 ∧ id < 16777216) ∨ (kind = 2 ∧ id < 16777216) ∨ (kind = 3 ∧ on = 0)) := by
      unfold RightT
      simp only
      rw [← HN.out]
      constructor
      · intro h; exact h.2.2.2.2.2
      · intro h; exact ⟨H1.out, H2.out, by omega, by omega, HC.out, h⟩
    have HI := Lib.hid hiff
    clear hiff
    have close : ∀ x : Bool, (x = true ↔ ((kind = 1 ∧ on = 0 ∧ id < 16777216) ∨ (kind = 2 ∧ id < 16777216) ∨ (kind = 3 ∧ on = 0))) → r = x := by
      intro x hx
      rw [← HR.out]
      by_cases hh : RightT ⟨kind, loc, pee, id, seg, os, ks, sum, seq⟩
      · rw [rightT_yes hh]; exact (hx.2 (HI.out.1 hh)).symm
      · rw [rightT_no hh]
        cases x
        · rfl
        · exact absurd (HI.out.2 (hx.1 rfl)) hh
    have CL := Lib.hid close
    clear close
    by_cases k1 : kind = 1
    · subst k1
      by_cases o0 : on = 0
      · obtain rfl := CL.out (decide (id < 16777216)) (by simp; omega)
        subst o0
        go_enter Try.func20, Try.ntmps20
        go_wp2_with (go_at_call 29; refine (HK.out _ F0.out).mono ?_; rintro e w1 ⟨rfl, f1⟩; have F1 := Lib.hid (F0.out.trans f1); obtain ⟨c0, c1, c2, c3, c4, c5, c6, c7, c8⟩ := cells9 (f1.heap X0.out (fun h => h)); clear f1)
        go_ret
        exact ⟨by simp <;> omega, F1.out⟩
      · have op : 0 < on := by omega
        obtain rfl := CL.out false (by simp; omega)
        clear o0
        go_enter Try.func20, Try.ntmps20
        go_wp2_with (go_at_call 29; refine (HK.out _ F0.out).mono ?_; rintro e w1 ⟨rfl, f1⟩; have F1 := Lib.hid (F0.out.trans f1); obtain ⟨c0, c1, c2, c3, c4, c5, c6, c7, c8⟩ := cells9 (f1.heap X0.out (fun h => h)); clear f1)
        go_ret
        exact ⟨rfl, F1.out⟩
    by_cases k2 : kind = 2
    · subst k2
      obtain rfl := CL.out (decide (id < 16777216)) (by simp)
      clear k1
      go_enter Try.func20, Try.ntmps20
      go_wp2_with (go_at_call 29; refine (HK.out _ F0.out).mono ?_; rintro e w1 ⟨rfl, f1⟩; have F1 := Lib.hid (F0.out.trans f1); obtain ⟨c0, c1, c2, c3, c4, c5, c6, c7, c8⟩ := cells9 (f1.heap X0.out (fun h => h)); clear f1)
      go_ret
      exact ⟨by simp <;> omega, F1.out⟩
    by_cases k3 : kind = 3
    · subst k3
      obtain rfl := CL.out (decide (on = 0)) (by simp)
      clear k1 k2
      go_enter Try.func20, Try.ntmps20
      go_wp2_with (go_at_call 29; refine (HK.out _ F0.out).mono ?_; rintro e w1 ⟨rfl, f1⟩; have F1 := Lib.hid (F0.out.trans f1); obtain ⟨c0, c1, c2, c3, c4, c5, c6, c7, c8⟩ := cells9 (f1.heap X0.out (fun h => h)); clear f1)
      go_ret
      refine ⟨?_, F1.out⟩
      by_cases o0 : on = 0 <;> simp [o0]
    obtain rfl := CL.out false (by simp; omega)
    have b5 : (kind == 1) = false := by simp [k1]
    have b6 : (kind == 2) = false := by simp [k2]
    have b7 : (kind == 3) = false := by simp [k3]
    clear k1 k2 k3
    go_enter Try.func20, Try.ntmps20
    go_wp2_with (go_at_call 29; refine (HK.out _ F0.out).mono ?_; rintro e w1 ⟨rfl, f1⟩; have F1 := Lib.hid (F0.out.trans f1); obtain ⟨c0, c1, c2, c3, c4, c5, c6, c7, c8⟩ := cells9 (f1.heap X0.out (fun h => h)); clear f1)
    go_ret
    exact ⟨rfl, F1.out⟩
  · obtain rfl : r = false := HR.out.symm.trans (rightT_no (fun h => by have := h.2.2.2.2.1; simp only at this; omega))
    have HC := Lib.hid hc
    have H5 := Lib.hid h5
    have HK : Hid (∀ W, Fr No w W → Calls Try.prog 29 #[.slice oo on oc] W (IsErr W [geneveS] c)) := Lib.hid (fun W f => by
      refine (right_big (HO.out.no f) HM.out).mono ?_
      rw [HC.out]
      rintro e w' (⟨h0, -⟩ | ⟨-, h⟩)
      · exact absurd h0 H5.out
      · exact h)
    clear HR h1 h2 hc h5
    go_enter Try.func20, Try.ntmps20
    go_wp2_with (go_at_call 29; refine (HK.out _ F0.out).mono ?_; rintro e w1 ⟨b, rfl, he, f1⟩; have F1 := Lib.hid (F0.out.trans f1); clear f1 he)
    go_ret
    exact ⟨rfl, F1.out⟩
end Go.Proofs.Ythoppkklooomgaa
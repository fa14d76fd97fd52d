/- RouteOrder: its walk, the walk itself. -/
import Derived.Test.YtapiaaffnhmmiaaLawRouteOrder
namespace Go.Proofs.Ytapiaaffnhmmiaa
open Go.RowKit
set_option linter.unusedVariables false
set_option linter.unusedSimpArgs false

def Tw (tv : Bool) (d b : Int) (l : List Rt) : Prop := tv = true ↔ ∃ r ∈ l, r.dst = d ∧ r.bits = b
theorem Tw.nil (d b : Int) : Tw false d b [] := by simp [Tw]
theorem Tw.snoc {tv : Bool} {d b : Int} {l : List Rt} (h : Tw tv d b l) (y : Rt) : Tw (tv || (y.dst == d && y.bits == b)) d b (l ++ [y]) := by
  unfold Tw at *
  rw [Bool.or_eq_true, h]
  constructor
  · rintro (⟨r, h1, h2⟩ | h)
    · exact ⟨r, by simp [h1], h2⟩
    · exact ⟨y, by simp, by simpa using h⟩
  · rintro ⟨r, h1, h2⟩
    rcases List.mem_append.1 h1 with h1 | h1
    · exact .inl ⟨r, h1, h2⟩
    · rw [List.mem_singleton] at h1; subst h1; exact .inr (by simpa using h2)

set_option maxRecDepth 100000 in
set_option maxHeartbeats 4000000 in
theorem RouteOrder_walk {w : World} {ao : Option Addr} {n cap : Nat} {xs : List Rt} (hs : Rs8 w ao n cap xs) (ip : Int) (h0 : 0 ≤ ip) (h1 : ip < 4294967296) :
    Calls Try.prog 5 #[.slice ao n cap, .int .u32 ip] w (ShownP w) := by
  have hn := hs.1
  have hc1 := hs.2.1.le
  have hc2 := hs.2.1.capLe
  have HS := Lib.hid hs
  have HN := Lib.hid hn
  clear hs hn
  go_enter Try.func5, Try.ntmps5
  go_wp2_with (go_at_call 9; refine (l8shown_any _).mono ?_; rintro e w1 ⟨rfl, f1⟩; have F1 := Lib.hid f1; clear f1)
  refine (rtNew_any _).mono ?_
  rintro e w2 ⟨rfl, t2, f2⟩
  have T2 := Lib.hid t2
  have F2 := Lib.hid (F1.out.then_no f2)
  have hmw : w.heap.size ≤ w1.heap.size := F1.out.size
  clear t2 f2 F1
  go_wp2_with fail
  refine (rtNew_any _).mono ?_
  rintro e w3 ⟨rfl, t3, f3⟩
  have T3 := Lib.hid t3
  have U3 := Lib.hid (T2.out.no f3)
  have F3 := Lib.hid (F2.out.then_no f3)
  have hm2 : w1.heap.size + 1 < w2.heap.size := lt_of_heap T2.out.box
  have hm3 : w2.heap.size + 1 < w3.heap.size := lt_of_heap t3.box
  clear t3 f3 T2 F2
  obtain ⟨ma, hma⟩ : ∃ m, w1.heap.size = m := ⟨_, rfl⟩
  obtain ⟨mb, hmb⟩ : ∃ m, w2.heap.size = m := ⟨_, rfl⟩
  rw [hma] at U3 hm2 hmw ⊢
  rw [hmb] at T3 hm2 hm3 ⊢
  clear hma hmb
  have F3s := F3.out.size
  go_wp2_with fail
  go_loopw [8, 9] (fun t8 t9 wr => ∃ (k on oc : Nat) (oo : Option Addr) (os : List Rt), k ≤ n ∧ t9 = .int .i64 k ∧ t8 = .slice oo on oc ∧ on = os.length ∧ Row os ∧ Own wr 33 4 oo on oc (os.flatMap encR) ∧ (∀ a, oo = some a → w3.heap.size ≤ a.block) ∧ RTb wr (ma + 1) ma [] ∧ RTb wr (mb + 1) mb [] ∧ w3.heap.size ≤ wr.heap.size ∧ Fr No w wr) (fun _ t9 _ => n - (intOf t9).toNat)
  case atStart => exact ⟨0, 0, 0, none, [], by omega, rfl, rfl, rfl, Row.nil, Own.nil _ _ _, fun a h => (by cases h), U3.out, T3.out, Nat.le_refl _, F3.out⟩
  case round =>
    clear U3 T3 F3
    obtain ⟨k, on, oc, oo, os, hk, rfl, rfl, hon, hrow, hown, hfr, hta, htb, hsz, hf⟩ := hrel
    have hol := hrow.len
    have HON := Lib.hid hon
    have HR := Lib.hid hrow
    have HO := Lib.hid hown
    have HFr := Lib.hid hfr
    have HA := Lib.hid hta
    have HB := Lib.hid htb
    have HF := Lib.hid hf
    have hoc := hown.le
    have hoc2 := hown.capLe
    have hon60 : on ≤ 60 := by omega
    clear hon hrow hown hfr hta htb hf hol
    by_cases hlt : k < n ∧ on < 60
    · obtain ⟨l1, l2⟩ := hlt
      obtain ⟨x, hx⟩ : ∃ x, xs[k]? = some x := ⟨xs[k]'(by rw [← HN.out]; exact l1), List.getElem?_eq_getElem _⟩
      obtain ⟨ab, aoff, rfl, c0, c1, c2, c3⟩ := rows4_any (by rw [← HS.out.1]) (HS.out.2.1.no HF.out) hx
      have hxo := HS.out.2.2 x (List.mem_of_getElem? hx)
      obtain ⟨xd, xb, xv, xo⟩ := x
      simp only at c0 c1 c2 c3
      have HXO := Lib.hid hxo
      obtain ⟨b5, hb5⟩ : ∃ b5, bits .and .i64 xb 31 = b5 := ⟨_, rfl⟩
      have hb52 : 0 ≤ b5 ∧ b5 ≤ 31 := by have := i64_mask5 xb; omega
      obtain ⟨d5, hd5⟩ : ∃ d5, cutN xd b5 = d5 := ⟨_, rfl⟩
      have HD5 := Lib.hid hd5
      have d5b := cutN_bd xd b5 HXO.out.1.1 HXO.out.1.2
      rw [hd5] at d5b
      have d5c : cutN d5 b5 = d5 := by rw [← hd5, cutN_self]
      have D5C := Lib.hid d5c
      clear hx hxo hd5 d5c
      go_wp2_with fail
      refine (rtCut_eq _ HXO.out.1.1 HXO.out.1.2 HD5.out).mono ?_
      rintro e w4 ⟨rfl, rfl⟩
      go_wp2_with fail
      have fx := (Fr.refl No wr).alloc (.cells #[.int .u32 d5, .int .i64 b5, .int .u32 xv, .int .i64 xo] 33)
      have X5 := Lib.hid (heap_alloc_new wr (.cells #[.int .u32 d5, .int .i64 b5, .int .u32 xv, .int .i64 xo] 33))
      have hbx : w3.heap.size ≤ wr.heap.size := hsz
      have O5 := Lib.hid (HO.out.no fx)
      have A5 := Lib.hid (HA.out.no fx)
      have B5 := Lib.hid (HB.out.no fx)
      have F5 := Lib.hid (HF.out.then_no fx)
      have sz5 : w3.heap.size ≤ (wr.alloc (.cells #[.int .u32 d5, .int .i64 b5, .int .u32 xv, .int .i64 xo] 33)).heap.size := by simp; omega
      clear fx HO HA HB HF c0 c1 c2 c3
      generalize wr.heap.size = bx at X5 hbx hsz ⊢
      generalize wr.alloc (.cells #[.int .u32 d5, .int .i64 b5, .int .u32 xv, .int .i64 xo] 33) = w5 at X5 O5 A5 B5 F5 sz5 ⊢
      go_loopw [11, 12] (fun t11 t12 wr2 => ∃ (j : Nat) (tv : Bool), j ≤ on ∧ t12 = .int .i64 j ∧ t11 = .bool tv ∧ Tw tv d5 b5 (os.take j) ∧ Fr No w5 wr2) (fun _ t12 _ => on - (intOf t12).toNat)
      case atStart => exact ⟨0, false, by omega, rfl, rfl, Tw.nil _ _, Fr.refl _ _⟩
      case round =>
        obtain ⟨j, tv, hj, rfl, rfl, htv, hf2⟩ := hrel
        have HTV := Lib.hid htv
        have HF2 := Lib.hid hf2
        clear htv hf2
        by_cases hlt3 : j < on
        · obtain ⟨y, hy⟩ : ∃ y, os[j]? = some y := ⟨os[j]'(by rw [← HON.out]; exact hlt3), List.getElem?_eq_getElem _⟩
          have hsn : os.take (j + 1) = os.take j ++ [y] := by rw [List.take_add_one, hy]; rfl
          have HSN := Lib.hid hsn
          cases oo with
          | none => exfalso; have := O5.out.nocap rfl; omega
          | some g =>
            obtain ⟨hg0, -⟩ := O5.out.row g rfl
            obtain ⟨gb, goff, gsp⟩ := g
            cases hg0
            obtain ⟨y0, y1, y2, y3⟩ := rows4_at (O5.out.no HF2.out).sl hy
            obtain ⟨x0, x1, x2, x3⟩ := cells4 (HF2.out.heap X5.out (fun h => h))
            obtain ⟨yd, yb, yv, yo⟩ := y
            simp only at y0 y1 y2 y3
            have htn := Tw.snoc HTV.out ⟨yd, yb, yv, yo⟩
            rw [← HSN.out] at htn
            simp only at htn
            obtain ⟨e1, he1⟩ : ∃ e1, (yd == d5) = e1 := ⟨_, rfl⟩
            obtain ⟨e2, he2⟩ : ∃ e2, (yb == b5) = e2 := ⟨_, rfl⟩
            rw [he1, he2] at htn
            have bj : (j : Int) < (on : Int) := by omega
            have HT2 := Lib.hid htn
            clear hy hsn htn
            cases tv
            · cases e1
              all_goals
                go_wp2_with fail
                go_quiet (fail)
                go_wp2_with fail
                go_roundw
                case rel => exact ⟨j + 1, _, by omega, by go_num, rfl, HT2.out, HF2.out.drewN _⟩
                case measure => simp [intOf]; omega
            · go_wp2_with fail
              go_quiet (fail)
              go_wp2_with fail
              go_roundw
              case rel => exact ⟨j + 1, _, by omega, by go_num, rfl, HT2.out, HF2.out.drewN _⟩
              case measure => simp [intOf]; omega
        · have hjn : j = on := by omega
          subst hjn
          have htk : os.take j = os := List.take_of_length_le (by rw [← HON.out]; exact Nat.le_refl _)
          have htv2 := HTV.out
          rw [htk] at htv2
          have HT2 := Lib.hid htv2
          clear htk htv2 HTV
          obtain ⟨x0, x1, x2, x3⟩ := cells4 (HF2.out.heap X5.out (fun h => h))
          have lx := lt_of_heap (HF2.out.heap X5.out (fun h => h))
          cases tv
          · have hnew : ∀ s ∈ os, ¬ (s.dst = d5 ∧ s.bits = b5) := fun s hs h => by have := HT2.out.2 ⟨s, hs, h⟩; cases this
            have hrow2 := HR.out.snoc (r := ⟨d5, b5, xv, xo⟩) ⟨d5b, ⟨show (-9223372036854775808 : Int) ≤ b5 by omega, show b5 ≤ (9223372036854775807 : Int) by omega⟩, HXO.out.2.2⟩ ⟨show (0 : Int) ≤ b5 by omega, show b5 ≤ (32 : Int) by omega⟩ D5C.out (by have := HON.out; omega) hnew
            have HR2 := Lib.hid hrow2
            clear hnew hrow2
            go_wp2_with (at_builtin; refine wpl_append_rt (.tmp 84) (.tmp 86) rfl rfl rfl rfl ⟨d5, b5, xv, xo⟩ ((O5.out.no HF2.out).no ((Fr.refl No _).alloc _)) (Own.made (w := wr) (e := 33) (size := 4) _ 1 rfl (by decide)).sl (by omega) ?_; intro oo' oc' w6 ho6 f6 hd6)
            have fa : Fr (At oo) w5 w6 := (HF2.out.of_no.then_no ((Fr.refl No _).alloc _)).trans f6
            have hat : ∀ i, i < w3.heap.size → ¬ At oo i := fun i hi ⟨a, h1, h2⟩ => by have := HFr.out a h1; omega
            have f7 := Lib.hid (F5.out.then fa (fun i hi h => hat i (by have := F3s; omega) h))
            have A6 := Lib.hid (A5.out.fr fa (hat _ (by omega)) (hat _ (by omega)))
            have B6 := Lib.hid (B5.out.fr fa (hat _ (by omega)) (hat _ (by omega)))
            have sz6 : w3.heap.size ≤ w6.heap.size := Nat.le_trans sz5 fa.size
            have hfr6 : ∀ a, oo' = some a → w3.heap.size ≤ a.block := fun a ha => by
              rcases hd6 with h | h
              · exact HFr.out a (by rw [← h]; exact ha)
              · have h2 := h a ha
                have h3 := HF2.out.size
                first | omega | (simp at h2; omega)
            have HFr6 := Lib.hid hfr6
            have HO6 := Lib.hid ho6
            have HON6 : Hid (j + 1 = (os ++ [⟨d5, b5, xv, xo⟩] : List Rt).length) := Lib.hid (by have := HON.out; simp; omega)
            clear fa hat f6 hd6 hfr6 ho6 x0 x1 x2 x3 lx
            go_wp2_with fail
            go_roundw
            case rel => exact ⟨k + 1, _, _, _, os ++ [⟨d5, b5, xv, xo⟩], by omega, by go_num, rfl, HON6.out, HR2.out, by rw [List.flatMap_append]; simpa using HO6.out, HFr6.out, A6.out, B6.out, sz6, f7.out⟩
            case measure => simp [intOf]; omega
          · go_wp2_with fail
            go_roundw
            case rel => exact ⟨k + 1, _, _, _, os, by omega, by go_num, rfl, HON.out, HR.out, O5.out.no HF2.out, HFr.out, A5.out.no HF2.out, B5.out.no HF2.out, Nat.le_trans sz5 HF2.out.size, F5.out.then_no HF2.out⟩
            case measure => simp [intOf]; omega
    · have hcase : ¬ k < n ∨ (k < n ∧ ¬ on < 60) := by omega
      have F3s2 := HF.out.size
      rcases hcase with hlt | ⟨hlt, hlt2⟩
      all_goals
        go_wp2_with fail
        clear hlt
        go_loopw [13] (fun t13 wr => ∃ k : Nat, k ≤ on ∧ t13 = .int .i64 k ∧ Own wr 33 4 oo on oc (os.flatMap encR) ∧ RTb wr (ma + 1) ma (entries (os.take k)) ∧ RTb wr (mb + 1) mb (entries (os.reverse.take k)) ∧ w3.heap.size ≤ wr.heap.size ∧ Fr No w wr) (fun t13 _ => on - (intOf t13).toNat)
        case atStart => exact ⟨0, by omega, rfl, HO.out, HA.out, HB.out, hsz, HF.out⟩
        case round =>
          clear HO HA HB HF hsz F3s2
          obtain ⟨k2, hk2, rfl, hown, hta, htb, hsz, hf⟩ := hrel
          have HO := Lib.hid hown
          have HA := Lib.hid hta
          have HB := Lib.hid htb
          have HF := Lib.hid hf
          clear hown hta htb hf
          by_cases hlt4 : k2 < on
          · obtain ⟨x, hx⟩ : ∃ x, os[k2]? = some x := ⟨os[k2]'(by rw [← HON.out]; exact hlt4), List.getElem?_eq_getElem _⟩
            have hon2 := HON.out
            obtain ⟨y, hy⟩ : ∃ y, os[on - 1 - k2]? = some y := ⟨os[on - 1 - k2]'(by omega), List.getElem?_eq_getElem _⟩
            have hyr : os.reverse[k2]? = some y := by rw [List.getElem?_reverse (by omega), ← hon2]; exact hy
            have hsx : os.take (k2 + 1) = os.take k2 ++ [x] := by rw [List.take_add_one, hx]; rfl
            have hsy : os.reverse.take (k2 + 1) = os.reverse.take k2 ++ [y] := by rw [List.take_add_one, hyr]; rfl
            have HAX := Lib.hid (Row.add (by rw [← hsx]; exact HR.out.sub (List.take_sublist _ _)))
            have HAY := Lib.hid (Row.add (by rw [← hsy]; exact HR.out.rev.sub (List.take_sublist _ _)))
            rw [← hsx] at HAX
            rw [← hsy] at HAY
            have HXO := Lib.hid (HR.out.ok x (List.mem_of_getElem? hx))
            have HYO := Lib.hid (HR.out.ok y (List.mem_of_getElem? hy))
            have hl1 : (entries (os.take k2)).length ≤ 64 := by simp [entries]; omega
            have hl2 : (entries (os.reverse.take k2)).length ≤ 64 := by simp [entries]; omega
            cases oo with
            | none => exfalso; have := HO.out.nocap rfl; omega
            | some g =>
              obtain ⟨hg0, -⟩ := HO.out.row g rfl
              have hgb := HFr.out g rfl
              obtain ⟨gb, goff, gsp⟩ := g
              cases hg0
              simp only at hgb
              obtain ⟨x0, x1, x2, x3⟩ := rows4_at HO.out.sl hx
              obtain ⟨xd, xb, xv, xo⟩ := x
              obtain ⟨yd, yb, yv, yo⟩ := y
              have HY := Lib.hid hy
              have bj : (k2 : Int) < (on : Int) := by omega
              have bj2 : (on : Int) - 1 - (k2 : Int) = ((on - 1 - k2 : Nat) : Int) := by omega
              have bj3 : on - 1 - k2 < on := by omega
              simp only at x0 x1 x2 x3
              clear hx hy hyr hsx hsy hon2
              go_wp2_with fail
              refine (rtAdd_any HA.out ⟨xd, xb, xv, xo⟩ HXO.out hl1 HAX.out.1 HAX.out.2).mono ?_
              rintro e w4 ⟨rfl, t4, f4⟩
              have T4 := Lib.hid t4
              have U4 := Lib.hid (HB.out.fr f4 (show ¬ _ = _ by omega) (show ¬ _ = _ by omega))
              have O4 := Lib.hid (HO.out.fr f4 (fun a ha (h : _ = _) => by cases ha; simp at h; omega))
              have F4 := Lib.hid (HF.out.then f4 (by rintro i hi (rfl : i = _); omega))
              have sz4 : w3.heap.size ≤ w4.heap.size := Nat.le_trans hsz f4.size
              obtain ⟨y0, y1, y2, y3⟩ := rows4_at O4.out.sl HY.out
              simp only at y0 y1 y2 y3
              clear x0 x1 x2 x3 t4 f4 HA HB HO HF
              go_wp2_with fail
              refine (rtAdd_any U4.out ⟨yd, yb, yv, yo⟩ HYO.out hl2 HAY.out.1 HAY.out.2).mono ?_
              rintro e w5 ⟨rfl, u5, f5⟩
              have U5 := Lib.hid u5
              have T5 := Lib.hid (T4.out.fr f5 (show ¬ _ = _ by omega) (show ¬ _ = _ by omega))
              have O5 := Lib.hid (O4.out.fr f5 (fun a ha (h : _ = _) => by cases ha; simp at h; omega))
              have F5 := Lib.hid (F4.out.then f5 (by rintro i hi (rfl : i = _); omega))
              have sz5 : w3.heap.size ≤ w5.heap.size := Nat.le_trans sz4 f5.size
              clear y0 y1 y2 y3 u5 f5 T4 U4 O4 F4
              go_wp2_with fail
              go_roundw
              case rel => exact ⟨k2 + 1, by omega, by go_num, O5.out, T5.out, U5.out, sz5, F5.out⟩
              case measure => simp [intOf]; omega
          · have hk3 : k2 = on := by omega
            have hon2 := HON.out
            have tk1 : os.take k2 = os := List.take_of_length_le (by omega)
            have tk2 : os.reverse.take k2 = os.reverse := List.take_of_length_le (by simp; omega)
            rw [tk1] at HA
            rw [tk2] at HB
            clear hon2 tk1 tk2
            have GA := Lib.hid HR.out.good
            have GB := Lib.hid HR.out.rev.good
            have hle1 : (entries os).length ≤ 1000000 := by have := HR.out.len; simp [entries]; omega
            have hle2 : (entries os.reverse).length ≤ 1000000 := by have := HR.out.len; simp [entries]; omega
            go_wp2_with fail
            refine (rtList_any HA.out hle1).mono ?_
            rintro e w7 ⟨ao2, n2, cap2, ps, rfl, hn2, hpm, hps, how, -, f7⟩
            rw [entries_vals] at hpm
            have F7 := Lib.hid (HF.out.then_no f7)
            have A7 := Lib.hid (HA.out.no f7)
            have B7 := Lib.hid (HB.out.no f7)
            have P7 := Lib.hid how
            have hlp : n2 = on := by have := hpm.length_eq; have := HON.out; omega
            subst hlp
            have HN2 := Lib.hid hn2
            have HPM := Lib.hid hpm
            have HPS := Lib.hid hps
            clear f7 how HA HB HF hn2 hpm hps
            go_wp2_with fail
            refine (rtList_any B7.out hle2).mono ?_
            rintro e w8 ⟨ao3, n3, cap3, qs, rfl, hn3, hqm, hqs, how, -, f8⟩
            rw [entries_vals] at hqm
            have hpq : ps = qs := sorted_one ((HPM.out.trans (List.reverse_perm os).symm).trans hqm.symm) (by exact ((HPM.out.map _).nodup_iff).2 HR.out.nd) HPS.out hqs
            subst hpq
            have hnd := Lib.hid (((HPM.out.map fun r : Rt => (r.dst, r.bits)).nodup_iff).2 HR.out.nd)
            have hlq : n3 = n2 := by have := HN2.out; omega
            subst hlq
            have F8 := Lib.hid (F7.out.then_no f8)
            have A8 := Lib.hid (A7.out.no f8)
            have B8 := Lib.hid (B7.out.no f8)
            have P8 := Lib.hid (P7.out.no f8)
            have Q8 := Lib.hid how
            clear f8 how hqm hqs hn3 A7 B7 F7 P7 HPM
            obtain ⟨a, b, c, d, one, u, hu, hu2, hud, huk⟩ : ∃ (a b c d : Int) (one : Bool) (u : Option Rt), findN (entries os) ip 33 = u ∧ findN (entries os.reverse) ip 33 = u ∧ u.getD ⟨0, 0, 0, 0⟩ = ⟨a, b, c, d⟩ ∧ u.isSome = one :=
              ⟨_, _, _, _, _, findN (entries os) ip 33, rfl, (findN_congr (fun k => mget_perm GA.out.nd (entries_rev os) k) ip 33).symm, rfl, rfl⟩
            clear GA GB
            go_wp2_with fail
            refine (rtFind_any A8.out h0 h1 hu).mono ?_
            unfold FindP
            rw [hud, huk]
            simp only [evR]
            rintro e w9 ⟨rfl, f9⟩
            have fb := f9.alloc (.cells #[.int .u32 a, .int .i64 b, .int .u32 c, .int .i64 d] 33)
            have X9 := Lib.hid (heap_alloc_new w9 (.cells #[.int .u32 a, .int .i64 b, .int .u32 c, .int .i64 d] 33))
            have F9 := Lib.hid (F8.out.then_no fb)
            have B9 := Lib.hid (B8.out.no fb)
            have P9 := Lib.hid (P8.out.no fb)
            have Q9 := Lib.hid (Q8.out.no fb)
            clear f9 fb A8 B8 F8 P8 Q8
            go_wp2_with fail
            generalize w9.heap.size = bx at X9 ⊢
            generalize w9.alloc (.cells #[.int .u32 a, .int .i64 b, .int .u32 c, .int .i64 d] 33) = w10 at X9 F9 B9 P9 Q9 ⊢
            refine (rtFind_any B9.out h0 h1 hu2).mono ?_
            unfold FindP
            rw [hud, huk]
            simp only [evR]
            rintro e w11 ⟨rfl, f11⟩
            have fb := f11.alloc (.cells #[.int .u32 a, .int .i64 b, .int .u32 c, .int .i64 d] 33)
            have Y11 := Lib.hid (heap_alloc_new w11 (.cells #[.int .u32 a, .int .i64 b, .int .u32 c, .int .i64 d] 33))
            have X11 := Lib.hid (fb.heap X9.out (fun h => h))
            have F11 := Lib.hid (F9.out.then_no fb)
            have P11 := Lib.hid (P9.out.no fb)
            have Q11 := Lib.hid (Q9.out.no fb)
            clear f11 fb X9 F9 B9 P9 Q9
            obtain ⟨x0, x1, x2, x3⟩ := cells4 X11.out
            obtain ⟨y0, y1, y2, y3⟩ := cells4 Y11.out
            have e1 := neqRt ⟨a, b, c, d⟩ ⟨a, b, c, d⟩
            simp only [evR, decide_true, Bool.not_true] at e1
            go_wp2_with fail
            have P12 := Lib.hid (P11.out)
            have Q12 := Lib.hid (Q11.out)
            have F12 := Lib.hid (F11.out)
            clear P11 Q11 F11 X11 Y11 x0 x1 x2 x3 y0 y1 y2 y3 HO HR HON HFr e1
            generalize World.alloc w11 _ = w12 at P12 Q12 F12 ⊢
            go_loopw [20] (fun t20 wr => ∃ i : Nat, i ≤ n3 ∧ t20 = .int .i64 i ∧ Fr No w12 wr) (fun t20 _ => n3 - (intOf t20).toNat)
            case atStart => exact ⟨0, by omega, rfl, Fr.refl _ _⟩
            case round =>
              obtain ⟨i, hi, rfl, hf⟩ := hrel
              have HF := Lib.hid hf
              clear hf
              by_cases hlt5 : i < n3
              · obtain ⟨x, hx⟩ : ∃ x, ps[i]? = some x := ⟨ps[i]'(by rw [← HN2.out]; exact hlt5), List.getElem?_eq_getElem _⟩
                cases ao2 with
                | none => exfalso; have := P12.out.nocap rfl; have := P12.out.le; omega
                | some g =>
                cases ao3 with
                | none => exfalso; have := Q12.out.nocap rfl; have := Q12.out.le; omega
                | some g' =>
                  obtain ⟨hg0, -⟩ := P12.out.row g rfl
                  obtain ⟨gb, goff, gsp⟩ := g
                  cases hg0
                  obtain ⟨hg0, -⟩ := Q12.out.row g' rfl
                  obtain ⟨gb', goff', gsp'⟩ := g'
                  cases hg0
                  have cp1 := P12.out.le
                  have cp2 := P12.out.capLe
                  have cp3 := Q12.out.le
                  have cp4 := Q12.out.capLe
                  obtain ⟨x0, x1, x2, x3⟩ := rows4_at (P12.out.no HF.out).sl hx
                  obtain ⟨z0, z1, z2, z3⟩ := rows4_at (Q12.out.no HF.out).sl hx
                  have e1 := neqRt x x
                  have bj : (i : Int) < (n3 : Int) := by omega
                  by_cases hi0 : i = 0
                  · subst hi0
                    obtain ⟨xd, xb, xv, xo⟩ := x
                    simp only [evR, decide_true, Bool.not_true] at e1 x0 x1 x2 x3 z0 z1 z2 z3
                    clear hx
                    go_wp2_with fail
                    go_quiet (fail)
                    go_wp2_with fail
                    go_roundw
                    case rel => exact ⟨0 + 1, by omega, by go_num, HF.out.drewN _⟩
                    case measure => simp [intOf]; omega
                  · obtain ⟨j, hij⟩ : ∃ j, i = j + 1 := ⟨i - 1, by omega⟩
                    obtain ⟨y, hy⟩ : ∃ y, ps[j]? = some y := ⟨ps[j]'(by rw [← HN2.out]; omega), List.getElem?_eq_getElem _⟩
                    have hst := sorted_at hnd.out HPS.out hy (by rw [← hij]; exact hx)
                    obtain ⟨y0, y1, y2, y3⟩ := rows4_at (P12.out.no HF.out).sl hy
                    have bm : (i : Int) - 1 = (j : Int) := by omega
                    have bm2 : (j : Int) < (n3 : Int) := by omega
                    have bm3 : j < n3 := by omega
                    have bm4 : (0 : Int) < (i : Int) := by omega
                    have bm5 : 0 < i := by omega
                    obtain ⟨xd, xb, xv, xo⟩ := x
                    obtain ⟨yd, yb, yv, yo⟩ := y
                    simp only [evR, decide_true, Bool.not_true] at e1 x0 x1 x2 x3 z0 z1 z2 z3 y0 y1 y2 y3 hst
                    rcases hst with hst | ⟨hs1, hs2⟩
                    · have k1 : ¬ xd < yd := by omega
                      have k2 : ¬ yd = xd := by omega
                      have k3 : (yd == xd) = false := by simpa using k2
                      have k4 : decide (xd < yd) = false := by simpa using k1
                      have k5 : decide (yd = xd) = false := by simpa using k2
                      clear hx hy hij
                      go_wp2_with fail
                      go_quiet (fail)
                      go_wp2_with fail
                      go_roundw
                      case rel => exact ⟨i + 1, by omega, by go_num, HF.out.drewN _⟩
                      case measure => simp [intOf]; omega
                    · subst hs1
                      have k1 : ¬ yd < yd := by omega
                      have k2 : ¬ xb ≤ yb := by omega
                      clear hx hy hij
                      go_wp2_with fail
                      go_quiet (fail)
                      go_wp2_with fail
                      go_roundw
                      case rel => exact ⟨i + 1, by omega, by go_num, HF.out.drewN _⟩
                      case measure => simp [intOf]; omega
              · go_wp2_with fail
                go_ret
                exact ⟨rfl, F12.out.then_no HF.out⟩
end Go.Proofs.Ytapiaaffnhmmiaa

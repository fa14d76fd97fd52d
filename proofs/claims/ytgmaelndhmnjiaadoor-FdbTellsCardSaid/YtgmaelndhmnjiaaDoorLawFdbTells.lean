/- FdbTells. -/
import Derived.Test.YtgmaelndhmnjiaaDoorRbB
import Derived.Test.YtgmaelndhmnjiaaDoorLawFdbForgets
import Derived.Deep.DeepCutAuto
import Derived.Deep.CutBlock
namespace Go.Proofs.YtgmaelndhmnjiaaDoor
open Go.RowKit
set_option linter.unusedVariables false
set_option linter.unusedSimpArgs false

set_option maxRecDepth 100000 in
set_option maxHeartbeats 8000000 in
theorem FdbTells_walk {w : World} (hg : EG w) (room : Int) {life : Int} (hl0 : 0 ≤ life) (hl1 : life < 18446744073709551616) {now0 : Int} (hn0 : 0 ≤ now0) (hn1 : now0 < 18446744073709551616) {ao : Option Addr} {n cap : Nat} {xs : List Stp} (hs : Ss15 w ao n cap xs) :
    Calls Tryd.prog 5 #[.int .i64 room, .int .u64 life, .int .u64 now0, .slice ao n cap] w (ShownF w) := by
  have HGA := Lib.hid hg
  have HS := Lib.hid hs
  have HN := Lib.hid hs.1
  have hc1 := hs.2.1.le
  have hc2 := hs.2.1.capLe
  clear hg hs
  go_enter Tryd.func5, Tryd.ntmps5
  go_wp2_with fail
  refine (l15shown_any HGA.out).mono ?_
  rintro e w1 ⟨rfl, f1⟩
  go_wp2_with fail
  obtain ⟨rm, hrm⟩ : ∃ rm, min (max room 1) 64 = rm := ⟨_, rfl⟩
  refine (fbNew_n w1 room life hl0 hl1 hrm).mono ?_
  rintro e w2 ⟨tb, mb, rfl, h2, f2⟩
  go_wp2_with fail
  refine (r15New_any w2 room life hrm).mono ?_
  rintro e w3 ⟨rfl, h3, f3⟩
  obtain ⟨rb, hrb⟩ : ∃ g, w2.heap.size = g := ⟨_, rfl⟩
  rw [hrb] at h3 ⊢
  obtain ⟨B, hB⟩ : ∃ g, w1.heap.size = g := ⟨_, rfl⟩
  rw [hB] at h2
  have HB3 : Hid (Bt w w3 B tb mb rb rm life [] []) := Lib.hid ⟨h2.no f3, ⟨none, 0, 0, h3, fun a ha => by cases ha⟩, (f1.trans f2).trans f3, by rw [← hB]; exact f1.size, by rw [← hrb]; exact (f1.trans f2).size⟩
  clear h2 h3 f1 f2 f3 hrb hB hrm
  go_wp2_with fail
  go_loopw [2, 12] (fun t2 t12 wr => ∃ (k : Nat) (nw : Int) (A : AL), k ≤ n ∧ k ≤ 300 ∧ t12 = .int .i64 k ∧ t2 = .int .u64 nw ∧ 0 ≤ nw ∧ nw < 18446744073709551616 ∧ Bt w wr B tb mb rb rm life A A) (fun _ t12 _ => n - (intOf t12).toNat)
  case atStart => exact ⟨0, now0, [], by omega, by omega, rfl, rfl, hn0, hn1, HB3.out⟩
  case round =>
    clear HB3
    obtain ⟨k, nw, A, hk, hk2, rfl, rfl, hw0, hw1, hb⟩ := hrel
    have H4 := Lib.hid hb
    clear hb
    by_cases hlt : k < n ∧ k < 300
    · obtain ⟨l1, l2⟩ := hlt
      obtain ⟨x, hx⟩ : ∃ x, xs[k]? = some x := ⟨xs[k]'(by rw [← HN.out]; exact l1), List.getElem?_eq_getElem _⟩
      obtain ⟨a, rfl, hsp, c0, c1, c2, c3, c4, c5, c6, c7, c8, c9⟩ := (HS.out.no H4.out.2.2.1).at hx
      have HXO := Lib.hid (HS.out.2.2 x (List.mem_of_getElem? hx))
      obtain ⟨kd, ⟨m0, m1, m2, m3, m4, m5⟩, ⟨pt, pn⟩, by_⟩ := x
      obtain ⟨ab, aoff, asp⟩ := a
      simp only at hsp c0 c1 c2 c3 c4 c5 c6 c7 c8 c9
      subst hsp
      have by0 : (by_.toNat : Int) < 256 := by have := by_.toNat_lt; omega
      have by1 : (0 : Int) ≤ (by_.toNat : Int) := by omega
      unfold byteV at c1 c2 c3 c4 c5 c6 c9
      clear hx
      go_upto_region 11 with fail
      have hR := heap_alloc_new wr (.cells #[.int .i64 kd, .int .u8 (m0.toNat : Int), .int .u8 (m1.toNat : Int), .int .u8 (m2.toNat : Int), .int .u8 (m3.toNat : Int), .int .u8 (m4.toNat : Int), .int .u8 (m5.toNat : Int), .bool pt, .int .i64 pn, .int .u8 (by_.toNat : Int)] 46)
      have hF := (Fr.refl No wr).alloc (.cells #[.int .i64 kd, .int .u8 (m0.toNat : Int), .int .u8 (m1.toNat : Int), .int .u8 (m2.toNat : Int), .int .u8 (m3.toNat : Int), .int .u8 (m4.toNat : Int), .int .u8 (m5.toNat : Int), .bool pt, .int .i64 pn, .int .u8 (by_.toNat : Int)] 46)
      obtain ⟨nv, hnv⟩ : ∃ v, IntKind.u64.wrap (nw + (by_.toNat : Int)) = v := ⟨_, rfl⟩
      have nv0 : 0 ≤ nv ∧ nv < 18446744073709551616 := by rw [← hnv, IntKind.wrap_u64]; omega
      obtain ⟨nv0, nv1⟩ := nv0
      rw [hnv]
      clear hnv c0 c1 c2 c3 c4 c5 c6 c7 c8 c9
      have H5 := Lib.hid (H4.out.no hF)
      generalize World.alloc _ _ = w5 at hR H5 ⊢
      generalize wr.heap.size = xb at hR ⊢
      have X5 := Lib.hid hR
      clear hR hF H4
      have HSX : Hid (∀ W : World, W.heap[xb]? = some (.cells #[.int .i64 kd, .int .u8 (m0.toNat : Int), .int .u8 (m1.toNat : Int), .int .u8 (m2.toNat : Int), .int .u8 (m3.toNat : Int), .int .u8 (m4.toNat : Int), .int .u8 (m5.toNat : Int), .bool pt, .int .i64 pn, .int .u8 (by_.toNat : Int)] 46 (0, 0)) → (W.cell? ⟨xb, 1, none⟩ = some (.int .u8 (m0.toNat : Int)) ∧ W.cell? ⟨xb, 2, none⟩ = some (.int .u8 (m1.toNat : Int)) ∧ W.cell? ⟨xb, 3, none⟩ = some (.int .u8 (m2.toNat : Int)) ∧ W.cell? ⟨xb, 4, none⟩ = some (.int .u8 (m3.toNat : Int)) ∧ W.cell? ⟨xb, 5, none⟩ = some (.int .u8 (m4.toNat : Int)) ∧ W.cell? ⟨xb, 6, none⟩ = some (.int .u8 (m5.toNat : Int)) ∧ W.cell? ⟨xb, 7, none⟩ = some (.bool pt) ∧ W.cell? ⟨xb, 8, none⟩ = some (.int .i64 pn))) := Lib.hid (fun W h => by
        obtain ⟨-, e1, e2, e3, e4, e5, e6, e7, e8, -⟩ := cells10 h
        exact ⟨e1, e2, e3, e4, e5, e6, e7, e8⟩)
      have x0 : w5.cell? ⟨xb, 0, none⟩ = some (.int .i64 kd) := (cells10 X5.out).1
      go_upto_block 2 with fail
      clear x0
      go_cut [14] (fun s14 wc => s14 = .bool true ∧ ∃ A1 : AL, Hid (Bt w wc B tb mb rb rm life A1 A1) ∧ Hid (wc.heap[xb]? = some (.cells #[.int .i64 kd, .int .u8 (m0.toNat : Int), .int .u8 (m1.toNat : Int), .int .u8 (m2.toNat : Int), .int .u8 (m3.toNat : Int), .int .u8 (m4.toNat : Int), .int .u8 (m5.toNat : Int), .bool pt, .int .i64 pn, .int .u8 (by_.toNat : Int)] 46 (0, 0))))
      case first =>
        obtain ⟨x1, x2, x3, x4, x5, x6, x7, x8⟩ := HSX.out _ X5.out
        by_cases k0 : kd = 0
        · as_aux_lemma =>
            subst k0
            obtain ⟨⟨b, c, A1⟩, hr⟩ : ∃ r, alearn rm A ⟨m0, m1, m2, m3, m4, m5⟩ ⟨pt, pn⟩ nv = r := ⟨_, rfl⟩
            have HR := Lib.hid hr
            clear hr
            go_wp2_with fail
            refine (bt_learn_l H5.out ⟨m0, m1, m2, m3, m4, m5⟩ ⟨pt, pn⟩ nv0 nv1 HXO.out HR.out).mono ?_
            rintro e w6 ⟨rfl, hb6, k6⟩
            have H6 := Lib.hid hb6
            have hx6 := k6 _ _ X5.out rfl
            have X6 := Lib.hid hx6
            have HS5 := Lib.hid H5.out.sor
            have HL5 := Lib.hid H5.out.len
            clear hb6 k6 x1 x2 x3 x4 x5 x6 x7 x8
            obtain ⟨x1, x2, x3, x4, x5, x6, x7, x8⟩ := HSX.out _ hx6
            clear hx6
            go_wp2_with fail
            go_region_held3 (fun W => (W.cell? ⟨xb, 1, none⟩ = some (.int .u8 (m0.toNat : Int)) ∧ W.cell? ⟨xb, 2, none⟩ = some (.int .u8 (m1.toNat : Int)) ∧ W.cell? ⟨xb, 3, none⟩ = some (.int .u8 (m2.toNat : Int)) ∧ W.cell? ⟨xb, 4, none⟩ = some (.int .u8 (m3.toNat : Int)) ∧ W.cell? ⟨xb, 5, none⟩ = some (.int .u8 (m4.toNat : Int)) ∧ W.cell? ⟨xb, 6, none⟩ = some (.int .u8 (m5.toNat : Int)) ∧ W.cell? ⟨xb, 7, none⟩ = some (.bool pt) ∧ W.cell? ⟨xb, 8, none⟩ = some (.int .i64 pn)))
              (first | exact HSX.out _ X6.out | exact HSX.out _ hx7 | exact HSX.out _ hx8 | go_keep)
              (first | (go_at_call 17; refine (l15place_any ⟨pt, pn⟩ _).mono ?_; rintro e w7 ⟨rfl, f7⟩; have hx7 := f7.heap X6.out (fun h => h)) | (go_at_call 16; refine (bt_learn_r (H6.out.no ((Fr.refl No _).drew.trans f7)) HS5.out HL5.out ⟨m0, m1, m2, m3, m4, m5⟩ ⟨pt, pn⟩ nv0 nv1 HXO.out HR.out).mono ?_; rintro e w8 ⟨rfl, hb8, k8⟩; have hx8 := k8 _ _ hx7 rfl))
            all_goals
              have eb : (b == b) = true := by simp
              have ec : (c == c) = true := by simp
              try go_wp2_with fail
              go_meet
              exact ⟨rfl, A1, Lib.hid hb8, Lib.hid hx8⟩
        by_cases k1 : kd = 1
        · as_aux_lemma =>
            subst k1
            obtain ⟨⟨b, c, A1⟩, hr⟩ : ∃ r, alearn rm A ⟨m0, m1, m2, m3, m4, m5⟩ ⟨pt, pn⟩ nv = r := ⟨_, rfl⟩
            have HR := Lib.hid hr
            clear hr
            go_wp2_with fail
            refine (bt_learn_l H5.out ⟨m0, m1, m2, m3, m4, m5⟩ ⟨pt, pn⟩ nv0 nv1 HXO.out HR.out).mono ?_
            rintro e w6 ⟨rfl, hb6, k6⟩
            have H6 := Lib.hid hb6
            have hx6 := k6 _ _ X5.out rfl
            have X6 := Lib.hid hx6
            have HS5 := Lib.hid H5.out.sor
            have HL5 := Lib.hid H5.out.len
            clear hb6 k6 x1 x2 x3 x4 x5 x6 x7 x8
            obtain ⟨x1, x2, x3, x4, x5, x6, x7, x8⟩ := HSX.out _ hx6
            clear hx6
            go_wp2_with fail
            go_region_held3 (fun W => (W.cell? ⟨xb, 1, none⟩ = some (.int .u8 (m0.toNat : Int)) ∧ W.cell? ⟨xb, 2, none⟩ = some (.int .u8 (m1.toNat : Int)) ∧ W.cell? ⟨xb, 3, none⟩ = some (.int .u8 (m2.toNat : Int)) ∧ W.cell? ⟨xb, 4, none⟩ = some (.int .u8 (m3.toNat : Int)) ∧ W.cell? ⟨xb, 5, none⟩ = some (.int .u8 (m4.toNat : Int)) ∧ W.cell? ⟨xb, 6, none⟩ = some (.int .u8 (m5.toNat : Int)) ∧ W.cell? ⟨xb, 7, none⟩ = some (.bool pt) ∧ W.cell? ⟨xb, 8, none⟩ = some (.int .i64 pn)))
              (first | exact HSX.out _ X6.out | exact HSX.out _ hx7 | exact HSX.out _ hx8 | go_keep)
              (first | (go_at_call 17; refine (l15place_any ⟨pt, pn⟩ _).mono ?_; rintro e w7 ⟨rfl, f7⟩; have hx7 := f7.heap X6.out (fun h => h)) | (go_at_call 16; refine (bt_learn_r (H6.out.no ((Fr.refl No _).drew.trans f7)) HS5.out HL5.out ⟨m0, m1, m2, m3, m4, m5⟩ ⟨pt, pn⟩ nv0 nv1 HXO.out HR.out).mono ?_; rintro e w8 ⟨rfl, hb8, k8⟩; have hx8 := k8 _ _ hx7 rfl))
            all_goals
              have eb : (b == b) = true := by simp
              have ec : (c == c) = true := by simp
              try go_wp2_with fail
              go_meet
              exact ⟨rfl, A1, Lib.hid hb8, Lib.hid hx8⟩
        by_cases k2 : kd = 2
        · as_aux_lemma =>
            subst k2
            obtain ⟨⟨b, c, A1⟩, hr⟩ : ∃ r, alearn rm A ⟨m0, m1, m2, m3, m4, m5⟩ ⟨pt, pn⟩ nv = r := ⟨_, rfl⟩
            have HR := Lib.hid hr
            clear hr
            go_wp2_with fail
            refine (bt_learn_l H5.out ⟨m0, m1, m2, m3, m4, m5⟩ ⟨pt, pn⟩ nv0 nv1 HXO.out HR.out).mono ?_
            rintro e w6 ⟨rfl, hb6, k6⟩
            have H6 := Lib.hid hb6
            have hx6 := k6 _ _ X5.out rfl
            have X6 := Lib.hid hx6
            have HS5 := Lib.hid H5.out.sor
            have HL5 := Lib.hid H5.out.len
            clear hb6 k6 x1 x2 x3 x4 x5 x6 x7 x8
            obtain ⟨x1, x2, x3, x4, x5, x6, x7, x8⟩ := HSX.out _ hx6
            clear hx6
            go_wp2_with fail
            go_region_held3 (fun W => (W.cell? ⟨xb, 1, none⟩ = some (.int .u8 (m0.toNat : Int)) ∧ W.cell? ⟨xb, 2, none⟩ = some (.int .u8 (m1.toNat : Int)) ∧ W.cell? ⟨xb, 3, none⟩ = some (.int .u8 (m2.toNat : Int)) ∧ W.cell? ⟨xb, 4, none⟩ = some (.int .u8 (m3.toNat : Int)) ∧ W.cell? ⟨xb, 5, none⟩ = some (.int .u8 (m4.toNat : Int)) ∧ W.cell? ⟨xb, 6, none⟩ = some (.int .u8 (m5.toNat : Int)) ∧ W.cell? ⟨xb, 7, none⟩ = some (.bool pt) ∧ W.cell? ⟨xb, 8, none⟩ = some (.int .i64 pn)))
              (first | exact HSX.out _ X6.out | exact HSX.out _ hx7 | exact HSX.out _ hx8 | go_keep)
              (first | (go_at_call 17; refine (l15place_any ⟨pt, pn⟩ _).mono ?_; rintro e w7 ⟨rfl, f7⟩; have hx7 := f7.heap X6.out (fun h => h)) | (go_at_call 16; refine (bt_learn_r (H6.out.no ((Fr.refl No _).drew.trans f7)) HS5.out HL5.out ⟨m0, m1, m2, m3, m4, m5⟩ ⟨pt, pn⟩ nv0 nv1 HXO.out HR.out).mono ?_; rintro e w8 ⟨rfl, hb8, k8⟩; have hx8 := k8 _ _ hx7 rfl))
            all_goals
              have eb : (b == b) = true := by simp
              have ec : (c == c) = true := by simp
              try go_wp2_with fail
              go_meet
              exact ⟨rfl, A1, Lib.hid hb8, Lib.hid hx8⟩
        by_cases k3 : kd = 3
        · as_aux_lemma =>
            subst k3
            obtain ⟨⟨c, A1⟩, hr⟩ : ∃ r, astatic rm A ⟨m0, m1, m2, m3, m4, m5⟩ ⟨pt, pn⟩ = r := ⟨_, rfl⟩
            have HR := Lib.hid hr
            clear hr
            have HS5 := Lib.hid H5.out.sor
            have HL5 := Lib.hid H5.out.len
            go_wp2_with fail
            go_region_held3 (fun W => (W.cell? ⟨xb, 1, none⟩ = some (.int .u8 (m0.toNat : Int)) ∧ W.cell? ⟨xb, 2, none⟩ = some (.int .u8 (m1.toNat : Int)) ∧ W.cell? ⟨xb, 3, none⟩ = some (.int .u8 (m2.toNat : Int)) ∧ W.cell? ⟨xb, 4, none⟩ = some (.int .u8 (m3.toNat : Int)) ∧ W.cell? ⟨xb, 5, none⟩ = some (.int .u8 (m4.toNat : Int)) ∧ W.cell? ⟨xb, 6, none⟩ = some (.int .u8 (m5.toNat : Int)) ∧ W.cell? ⟨xb, 7, none⟩ = some (.bool pt) ∧ W.cell? ⟨xb, 8, none⟩ = some (.int .i64 pn)))
              (first | exact HSX.out _ X5.out | exact HSX.out _ hx6 | exact HSX.out _ hx7 | exact HSX.out _ hx8 | go_keep)
              (first | (go_at_call 18; refine (bt_static_l (H5.out.no ((Fr.refl No _).drew)) ⟨m0, m1, m2, m3, m4, m5⟩ ⟨pt, pn⟩ HXO.out HR.out).mono ?_; rintro e w6 ⟨rfl, hb6, k6⟩; have hx6 := k6 _ _ X5.out rfl) | (go_at_call 17; refine (l15place_any ⟨pt, pn⟩ _).mono ?_; rintro e w7 ⟨rfl, f7⟩; have hx7 := f7.heap hx6 (fun h => h)) | (go_at_call 19; refine (bt_static_r (hb6.no f7) HS5.out HL5.out ⟨m0, m1, m2, m3, m4, m5⟩ ⟨pt, pn⟩ HXO.out HR.out).mono ?_; rintro e w8 ⟨rfl, hb8, k8⟩; have hx8 := k8 _ _ hx7 rfl))
            all_goals
              have ec : (c == c) = true := by simp
              try go_wp2_with fail
              go_meet
              exact ⟨rfl, A1, Lib.hid hb8, Lib.hid hx8⟩
        by_cases k4 : kd = 4
        · as_aux_lemma =>
            subst k4
            obtain ⟨A1, hr⟩ : ∃ r, aforget A ⟨pt, pn⟩ = r := ⟨_, rfl⟩
            obtain ⟨c, hcc⟩ : ∃ c, (A.length : Int) - (A1.length : Int) = c := ⟨_, rfl⟩
            have HR := Lib.hid hr
            have HC := Lib.hid hcc
            clear hr hcc
            have HS5 := Lib.hid H5.out.sor
            have HL5 := Lib.hid H5.out.len
            go_wp2_with fail
            go_region_held3 (fun W => (W.cell? ⟨xb, 1, none⟩ = some (.int .u8 (m0.toNat : Int)) ∧ W.cell? ⟨xb, 2, none⟩ = some (.int .u8 (m1.toNat : Int)) ∧ W.cell? ⟨xb, 3, none⟩ = some (.int .u8 (m2.toNat : Int)) ∧ W.cell? ⟨xb, 4, none⟩ = some (.int .u8 (m3.toNat : Int)) ∧ W.cell? ⟨xb, 5, none⟩ = some (.int .u8 (m4.toNat : Int)) ∧ W.cell? ⟨xb, 6, none⟩ = some (.int .u8 (m5.toNat : Int)) ∧ W.cell? ⟨xb, 7, none⟩ = some (.bool pt) ∧ W.cell? ⟨xb, 8, none⟩ = some (.int .i64 pn)))
              (first | exact HSX.out _ X5.out | exact HSX.out _ hx6 | exact HSX.out _ hx7 | exact HSX.out _ hx8 | go_keep)
              (first | (go_at_call 20; refine (bt_forget_l (H5.out.no ((Fr.refl No _).drew)) ⟨pt, pn⟩ HR.out HC.out).mono ?_; rintro e w6 ⟨rfl, hb6, k6⟩; have hx6 := k6 _ _ X5.out rfl) | (go_at_call 17; refine (l15place_any ⟨pt, pn⟩ _).mono ?_; rintro e w7 ⟨rfl, f7⟩; have hx7 := f7.heap hx6 (fun h => h)) | (go_at_call 21; refine (bt_forget_r (hb6.no f7) HL5.out ⟨pt, pn⟩ HR.out HC.out).mono ?_; rintro e w8 ⟨rfl, hb8, k8⟩; have hx8 := k8 _ _ hx7 rfl))
            all_goals
              have ec : (c == c) = true := by simp
              try go_wp2_with fail
              go_meet
              exact ⟨rfl, A1, Lib.hid hb8, Lib.hid hx8⟩
        by_cases k5 : kd = 5
        · as_aux_lemma =>
            subst k5
            obtain ⟨A1, hr⟩ : ∃ r, adel A ⟨m0, m1, m2, m3, m4, m5⟩ = r := ⟨_, rfl⟩
            obtain ⟨b, hbb⟩ : ∃ b, (aget A ⟨m0, m1, m2, m3, m4, m5⟩).isSome = b := ⟨_, rfl⟩
            have HR := Lib.hid hr
            have HC := Lib.hid hbb
            clear hr hbb
            have HS5 := Lib.hid H5.out.sor
            have HL5 := Lib.hid H5.out.len
            go_wp2_with fail
            go_region_held3 (fun W => (W.cell? ⟨xb, 1, none⟩ = some (.int .u8 (m0.toNat : Int)) ∧ W.cell? ⟨xb, 2, none⟩ = some (.int .u8 (m1.toNat : Int)) ∧ W.cell? ⟨xb, 3, none⟩ = some (.int .u8 (m2.toNat : Int)) ∧ W.cell? ⟨xb, 4, none⟩ = some (.int .u8 (m3.toNat : Int)) ∧ W.cell? ⟨xb, 5, none⟩ = some (.int .u8 (m4.toNat : Int)) ∧ W.cell? ⟨xb, 6, none⟩ = some (.int .u8 (m5.toNat : Int)) ∧ W.cell? ⟨xb, 7, none⟩ = some (.bool pt) ∧ W.cell? ⟨xb, 8, none⟩ = some (.int .i64 pn)))
              (first | exact HSX.out _ X5.out | exact HSX.out _ hx6 | exact HSX.out _ hx7 | exact HSX.out _ hx8 | go_keep)
              (first | (go_at_call 22; refine (bt_drop_l (H5.out.no ((Fr.refl No _).drew)) ⟨m0, m1, m2, m3, m4, m5⟩ HR.out HC.out).mono ?_; rintro e w6 ⟨rfl, hb6, k6⟩; have hx6 := k6 _ _ X5.out rfl) | (go_at_call 23; refine (bt_drop_r hb6 HS5.out HL5.out ⟨m0, m1, m2, m3, m4, m5⟩ HR.out HC.out).mono ?_; rintro e w8 ⟨rfl, hb8, k8⟩; have hx8 := k8 _ _ hx6 rfl))
            all_goals
              have ec : (b == b) = true := by simp
              try go_wp2_with fail
              go_meet
              exact ⟨rfl, A1, Lib.hid hb8, Lib.hid hx8⟩
        by_cases k6 : kd = 6
        · as_aux_lemma =>
            subst k6
            obtain ⟨A1, hr⟩ : ∃ r, atick life A nv = r := ⟨_, rfl⟩
            obtain ⟨c, hcc⟩ : ∃ c, (A.length : Int) - (A1.length : Int) = c := ⟨_, rfl⟩
            have HR := Lib.hid hr
            have HC := Lib.hid hcc
            clear hr hcc
            have HL5 := Lib.hid H5.out.len
            go_wp2_with fail
            refine (bt_tick_l H5.out nv0 nv1 HR.out HC.out).mono ?_
            rintro e w6 ⟨rfl, hb6, k6⟩
            have H6 := Lib.hid hb6
            have X6 := Lib.hid (k6 _ _ X5.out rfl)
            clear hb6 k6
            go_wp2_with fail
            refine (bt_tick_r H6.out HL5.out nv0 nv1 HR.out HC.out).mono ?_
            rintro e w8 ⟨rfl, hb8, k8⟩
            have H8 := Lib.hid hb8
            have X8 := Lib.hid (k8 _ _ X6.out rfl)
            clear hb8 k8
            have ec : (c == c) = true := by simp
            go_wp2_with fail
            go_meet
            exact ⟨rfl, A1, H8, X8⟩
        have q0 : (kd == 0) = false := by simpa using k0
        have q1 : (kd == 1) = false := by simpa using k1
        have q2 : (kd == 2) = false := by simpa using k2
        have q3 : (kd == 3) = false := by simpa using k3
        have q4 : (kd == 4) = false := by simpa using k4
        have q5 : (kd == 5) = false := by simpa using k5
        have q6 : (kd == 6) = false := by simpa using k6
        go_wp2_with fail
        go_meet
        exact ⟨rfl, A, H5, X5⟩
      case rest =>
        as_aux_lemma =>
          clear H5 X5
          obtain ⟨rfl, A1, H6, X6⟩ := hcut
          generalize wc = w6 at H6 X6 ⊢
          obtain ⟨x1, x2, x3, x4, x5, x6, x7, x8⟩ := HSX.out _ X6.out
          obtain ⟨o, ho⟩ : ∃ o, afind life A1 ⟨m0, m1, m2, m3, m4, m5⟩ nv = o := ⟨_, rfl⟩
          obtain ⟨⟨qt, qn⟩, hq⟩ : ∃ q, o.getD ⟨false, 0⟩ = q := ⟨_, rfl⟩
          obtain ⟨qs, hqs⟩ : ∃ b, o.isSome = b := ⟨_, rfl⟩
          have CL : Hid (∀ W, Fr No w6 W → Calls Tryd.prog 11 #[.pointer (some ⟨tb, 0, none⟩), .agg #[.int .u8 (m0.toNat : Int), .int .u8 (m1.toNat : Int), .int .u8 (m2.toNat : Int), .int .u8 (m3.toNat : Int), .int .u8 (m4.toNat : Int), .int .u8 (m5.toNat : Int)], .int .u64 nv] W fun e w' => e = .returned (.tuple #[.agg #[.bool qt, .int .i64 qn], .bool qs]) ∧ Fr No W w') := Lib.hid (fun W f => (bt_find_l (H6.out.no f) ⟨m0, m1, m2, m3, m4, m5⟩ nv0 nv1 ho).mono (by rintro e w' ⟨he, hf⟩; rw [hq, hqs] at he; exact ⟨he, hf⟩))
          have CR : Hid (∀ W, Fr No w6 W → Calls Tryd.prog 25 #[.pointer (some ⟨rb, 0, none⟩), .agg #[.int .u8 (m0.toNat : Int), .int .u8 (m1.toNat : Int), .int .u8 (m2.toNat : Int), .int .u8 (m3.toNat : Int), .int .u8 (m4.toNat : Int), .int .u8 (m5.toNat : Int)], .int .u64 nv] W fun e w' => e = .returned (.tuple #[.agg #[.bool qt, .int .i64 qn], .bool qs]) ∧ Fr No W w') := Lib.hid (fun W f => (bt_find_r (H6.out.no f) H6.out.sor ⟨m0, m1, m2, m3, m4, m5⟩ nv0 nv1 ho).mono (by rintro e w' ⟨he, hf⟩; rw [hq, hqs] at he; exact ⟨he, hf⟩))
          clear ho hq hqs
          go_wp2_with fail
          refine (CL.out _ (Fr.refl _ _)).mono ?_
          rintro e w7 ⟨rfl, f7⟩
          have rP := heap_alloc_new w7 (.cells #[.bool qt, .int .i64 qn] 33)
          have fP := (Fr.refl No w7).alloc (.cells #[.bool qt, .int .i64 qn] 33)
          go_upto_region 28 with fail
          generalize World.alloc _ _ = w8 at rP fP ⊢
          generalize w7.heap.size = pb at rP ⊢
          have F8 := Lib.hid (f7.trans fP)
          have P8 := Lib.hid rP
          clear rP fP f7 x1 x2 x3 x4 x5 x6 x7 x8 CL
          obtain ⟨x1, x2, x3, x4, x5, x6, x7, x8⟩ := HSX.out _ (F8.out.heap X6.out (fun h => h))
          go_wp2_with fail
          refine (CR.out _ F8.out).mono ?_
          rintro e w9 ⟨rfl, f9⟩
          have rQ := heap_alloc_new w9 (.cells #[.bool qt, .int .i64 qn] 48)
          have fQ := (Fr.refl No w9).alloc (.cells #[.bool qt, .int .i64 qn] 48)
          go_upto_region 29 with fail
          generalize World.alloc _ _ = w10 at rQ fQ ⊢
          generalize w9.heap.size = qb at rQ ⊢
          have F10 := Lib.hid (F8.out.trans (f9.trans fQ))
          have P10 := Lib.hid ((f9.trans fQ).heap P8.out (fun h => h))
          have Q10 := Lib.hid rQ
          clear rQ fQ f9 x1 x2 x3 x4 x5 x6 x7 x8 CR F8 P8
          go_wp2_with fail
          refine (fbList_n (H6.out.no F10.out).1).mono ?_
          rintro e w11 ⟨la, lc, rfl, lo, -, f11⟩
          have H11 := Lib.hid (H6.out.no (F10.out.trans f11))
          have P11 := Lib.hid (f11.heap P10.out (fun h => h))
          have Q11 := Lib.hid (f11.heap Q10.out (fun h => h))
          have X11 := Lib.hid ((F10.out.trans f11).heap X6.out (fun h => h))
          have lle := lo.le
          have lcl := lo.capLe
          have LO := Lib.hid lo
          clear lo f11 F10 P10 Q10 X6 H6
          obtain ⟨ao2, n2, cap2, hR2, -⟩ := H11.out.2.1
          have hn2 := hR2.len
          obtain ⟨ln, hln⟩ : ∃ m, A1.length = m := ⟨_, rfl⟩
          have HLN := Lib.hid hln
          rw [hln] at hn2 lle ⊢
          subst hn2
          have RR := Lib.hid hR2
          have rle := hR2.own.le
          clear hln hR2
          obtain ⟨g, hg⟩ : ∃ g, grpM ⟨m0, m1, m2, m3, m4, m5⟩ = g := ⟨_, rfl⟩
          have HG := Lib.hid hg
          clear hg
          have SF : Hid (∀ W, Fr No w11 W → (W.cell? ⟨pb, 0, none⟩ = some (.bool qt) ∧ W.cell? ⟨pb, 1, none⟩ = some (.int .i64 qn) ∧ W.cell? ⟨qb, 0, none⟩ = some (.bool qt) ∧ W.cell? ⟨qb, 1, none⟩ = some (.int .i64 qn) ∧ W.cell? ⟨rb, 2, none⟩ = some (.slice ao2 n2 cap2) ∧ W.cell? ⟨xb, 1, none⟩ = some (.int .u8 (m0.toNat : Int)) ∧ W.cell? ⟨xb, 2, none⟩ = some (.int .u8 (m1.toNat : Int)) ∧ W.cell? ⟨xb, 3, none⟩ = some (.int .u8 (m2.toNat : Int)) ∧ W.cell? ⟨xb, 4, none⟩ = some (.int .u8 (m3.toNat : Int)) ∧ W.cell? ⟨xb, 5, none⟩ = some (.int .u8 (m4.toNat : Int)) ∧ W.cell? ⟨xb, 6, none⟩ = some (.int .u8 (m5.toNat : Int)))) := Lib.hid (fun W f => by
            obtain ⟨p0, p1⟩ := cells2 (f.heap P11.out (fun h => h))
            obtain ⟨q0, q1⟩ := cells2 (f.heap Q11.out (fun h => h))
            obtain ⟨-, -, r2⟩ := (RR.out.no f).cells
            obtain ⟨x1, x2, x3, x4, x5, x6, -⟩ := HSX.out _ (f.heap X11.out (fun h => h))
            exact ⟨p0, p1, q0, q1, r2, x1, x2, x3, x4, x5, x6⟩)
          obtain ⟨p0, p1, q0, q1, r2, x1, x2, x3, x4, x5, x6⟩ := SF.out _ (Fr.refl _ _)
          have CPL : Hid (∀ W, Calls Tryd.prog 17 #[.agg #[.bool qt, .int .i64 qn]] W fun e w' => e = .returned (.agg #[.bool qt, .int .i64 qn]) ∧ Fr No W w') := Lib.hid (fun W => l15place_any ⟨qt, qn⟩ W)
          have eP : ∀ W, (binOp .neq 48 (.agg #[.bool qt, .int .i64 qn]) (.agg #[.bool qt, .int .i64 qn])).run Tryd.prog W = .ok (.bool false) W := fun W => by have h := neqP15 ⟨qt, qn⟩ ⟨qt, qn⟩ W; rw [decide_eq_true rfl] at h; exact h
          have eq : (qs != qs) = false := by simp
          have el : ((n2 : Int) != (n2 : Int)) = false := by simp
          have eg : (g != g) = false := by simp
          have et : (!true) = false := rfl
          go_wp2_with fail
          go_region_held3 (fun W => (W.cell? ⟨pb, 0, none⟩ = some (.bool qt) ∧ W.cell? ⟨pb, 1, none⟩ = some (.int .i64 qn) ∧ W.cell? ⟨qb, 0, none⟩ = some (.bool qt) ∧ W.cell? ⟨qb, 1, none⟩ = some (.int .i64 qn) ∧ W.cell? ⟨rb, 2, none⟩ = some (.slice ao2 n2 cap2) ∧ W.cell? ⟨xb, 1, none⟩ = some (.int .u8 (m0.toNat : Int)) ∧ W.cell? ⟨xb, 2, none⟩ = some (.int .u8 (m1.toNat : Int)) ∧ W.cell? ⟨xb, 3, none⟩ = some (.int .u8 (m2.toNat : Int)) ∧ W.cell? ⟨xb, 4, none⟩ = some (.int .u8 (m3.toNat : Int)) ∧ W.cell? ⟨xb, 5, none⟩ = some (.int .u8 (m4.toNat : Int)) ∧ W.cell? ⟨xb, 6, none⟩ = some (.int .u8 (m5.toNat : Int))))
            (first | exact SF.out _ (Fr.refl _ _).drew | exact SF.out _ ((Fr.refl _ _).drew.trans f12) | exact SF.out _ (((Fr.refl _ _).drew.trans f12).trans f13) | exact SF.out _ ((((Fr.refl _ _).drew.trans f12).trans f13).trans f14) | go_keep)
            (first | (go_at_call 17; refine (CPL.out _).mono ?_; rintro e w12 ⟨rfl, f12⟩) | (go_at_call 13; refine (fbGroup_any ⟨m0, m1, m2, m3, m4, m5⟩ _).mono ?_; rw [HG.out]; rintro e w13 ⟨rfl, f13⟩) | (go_at_call 26; refine (r15Group_any ⟨m0, m1, m2, m3, m4, m5⟩ _ HG.out).mono ?_; rintro e w14 ⟨rfl, f14⟩))
          have F14 := Lib.hid (((Fr.refl No w11).drew.trans f12).trans (f13.trans f14))
          have H14 := Lib.hid (H11.out.no F14.out)
          have R14 := Lib.hid (RR.out.no F14.out)
          have L14 := Lib.hid (LO.out.no F14.out)
          clear f12 f13 f14 eP eq el eg et p0 p1 q0 q1 r2 x1 x2 x3 x4 x5 x6 SF P11 Q11 X11 H11 RR LO CPL F14 HG
          go_wp2_with fail
          go_loopw [24] (fun t24 wr3 => ∃ j : Nat, j ≤ n2 ∧ t24 = .int .i64 j ∧ Fr No w14 wr3) (fun t24 _ => n2 - (intOf t24).toNat)
          case atStart => exact ⟨0, by omega, rfl, Fr.refl _ _⟩
          case round =>
            obtain ⟨j, hj, rfl, f15⟩ := hrel
            have F15 := Lib.hid f15
            have R15' := Lib.hid (R14.out.no f15)
            by_cases hjn : j < n2
            · obtain ⟨gb2, rfl⟩ := R15'.out.some_ hjn
              obtain ⟨e0, he⟩ : ∃ e, A1[j]? = some e := ⟨A1[j]'(by rw [HLN.out]; exact hjn), List.getElem?_eq_getElem _⟩
              obtain ⟨⟨a, b, c, d, e, f⟩, tu, en, at_, st⟩ := e0
              obtain ⟨g1, hg1, hc1⟩ := own_entry (L14.out.no f15) he
              subst hg1
              have CPE : Hid (∀ W, Calls Tryd.prog 17 #[.agg #[.bool tu, .int .i64 en]] W fun e w' => e = .returned (.agg #[.bool tu, .int .i64 en]) ∧ Fr No W w') := Lib.hid (fun W => l15place_any ⟨tu, en⟩ W)
              have SG : Hid (∀ W, Fr No wr W → (W.cell? ⟨rb, 2, none⟩ = some (.slice (some ⟨gb2, 0, none⟩) n2 cap2) ∧ W.cell? ⟨g1, j * 10, none⟩ = some (.int .u8 (a.toNat : Int)) ∧ W.cell? ⟨g1, j * 10 + 1, none⟩ = some (.int .u8 (b.toNat : Int)) ∧ W.cell? ⟨g1, j * 10 + 2, none⟩ = some (.int .u8 (c.toNat : Int)) ∧ W.cell? ⟨g1, j * 10 + 3, none⟩ = some (.int .u8 (d.toNat : Int)) ∧ W.cell? ⟨g1, j * 10 + 4, none⟩ = some (.int .u8 (e.toNat : Int)) ∧ W.cell? ⟨g1, j * 10 + 5, none⟩ = some (.int .u8 (f.toNat : Int)) ∧ W.cell? ⟨g1, j * 10 + 6, none⟩ = some (.bool tu) ∧ W.cell? ⟨g1, j * 10 + 7, none⟩ = some (.int .i64 en) ∧ W.cell? ⟨g1, j * 10 + 8, none⟩ = some (.int .u64 at_) ∧ W.cell? ⟨g1, j * 10 + 9, none⟩ = some (.bool st) ∧ W.cell? ⟨gb2, j * 10, none⟩ = some (.int .u8 (a.toNat : Int)) ∧ W.cell? ⟨gb2, j * 10 + 1, none⟩ = some (.int .u8 (b.toNat : Int)) ∧ W.cell? ⟨gb2, j * 10 + 2, none⟩ = some (.int .u8 (c.toNat : Int)) ∧ W.cell? ⟨gb2, j * 10 + 3, none⟩ = some (.int .u8 (d.toNat : Int)) ∧ W.cell? ⟨gb2, j * 10 + 4, none⟩ = some (.int .u8 (e.toNat : Int)) ∧ W.cell? ⟨gb2, j * 10 + 5, none⟩ = some (.int .u8 (f.toNat : Int)) ∧ W.cell? ⟨gb2, j * 10 + 6, none⟩ = some (.bool tu) ∧ W.cell? ⟨gb2, j * 10 + 7, none⟩ = some (.int .i64 en) ∧ W.cell? ⟨gb2, j * 10 + 8, none⟩ = some (.int .u64 at_) ∧ W.cell? ⟨gb2, j * 10 + 9, none⟩ = some (.bool st))) := Lib.hid (fun W f => by
                obtain ⟨-, -, r2⟩ := (R15'.out.no f).cells
                obtain ⟨y0, y1, y2, y3, y4, y5, y6, y7, y8, y9⟩ := e_cells R15'.out.own.sl he
                have k := fun i u h => f.cell (hc1 i u h) (fun h => h)
                exact ⟨r2, k 0 _ rfl, k 1 _ rfl, k 2 _ rfl, k 3 _ rfl, k 4 _ rfl, k 5 _ rfl, k 6 _ rfl, k 7 _ rfl, k 8 _ rfl, k 9 _ rfl, f.cell y0 (fun h => h), f.cell y1 (fun h => h), f.cell y2 (fun h => h), f.cell y3 (fun h => h), f.cell y4 (fun h => h), f.cell y5 (fun h => h), f.cell y6 (fun h => h), f.cell y7 (fun h => h), f.cell y8 (fun h => h), f.cell y9 (fun h => h)⟩)
              obtain ⟨r2, z0, z1, z2, z3, z4, z5, z6, z7, z8, z9, y0, y1, y2, y3, y4, y5, y6, y7, y8, y9⟩ := SG.out _ (Fr.refl _ _)
              have eM : ∀ W, (binOp .neq 31 (.agg #[.int .u8 (a.toNat : Int), .int .u8 (b.toNat : Int), .int .u8 (c.toNat : Int), .int .u8 (d.toNat : Int), .int .u8 (e.toNat : Int), .int .u8 (f.toNat : Int)]) (.agg #[.int .u8 (a.toNat : Int), .int .u8 (b.toNat : Int), .int .u8 (c.toNat : Int), .int .u8 (d.toNat : Int), .int .u8 (e.toNat : Int), .int .u8 (f.toNat : Int)])).run Tryd.prog W = .ok (.bool false) W := fun W => by have h := neqM ⟨a, b, c, d, e, f⟩ ⟨a, b, c, d, e, f⟩ W; rw [decide_eq_true rfl] at h; exact h
              have eP : ∀ W, (binOp .neq 48 (.agg #[.bool tu, .int .i64 en]) (.agg #[.bool tu, .int .i64 en])).run Tryd.prog W = .ok (.bool false) W := fun W => by have h := neqP15 ⟨tu, en⟩ ⟨tu, en⟩ W; rw [decide_eq_true rfl] at h; exact h
              have ea : (at_ != at_) = false := by simp
              have es : (st != st) = false := by simp
              have j1 : (j : Int) < (n2 : Int) := by omega
              have j0 : (0 : Int) ≤ (j : Int) := by omega
              clear he f15 hc1
              go_wp2_with fail
              go_region_held3 (fun W => (W.cell? ⟨rb, 2, none⟩ = some (.slice (some ⟨gb2, 0, none⟩) n2 cap2) ∧ W.cell? ⟨g1, j * 10, none⟩ = some (.int .u8 (a.toNat : Int)) ∧ W.cell? ⟨g1, j * 10 + 1, none⟩ = some (.int .u8 (b.toNat : Int)) ∧ W.cell? ⟨g1, j * 10 + 2, none⟩ = some (.int .u8 (c.toNat : Int)) ∧ W.cell? ⟨g1, j * 10 + 3, none⟩ = some (.int .u8 (d.toNat : Int)) ∧ W.cell? ⟨g1, j * 10 + 4, none⟩ = some (.int .u8 (e.toNat : Int)) ∧ W.cell? ⟨g1, j * 10 + 5, none⟩ = some (.int .u8 (f.toNat : Int)) ∧ W.cell? ⟨g1, j * 10 + 6, none⟩ = some (.bool tu) ∧ W.cell? ⟨g1, j * 10 + 7, none⟩ = some (.int .i64 en) ∧ W.cell? ⟨g1, j * 10 + 8, none⟩ = some (.int .u64 at_) ∧ W.cell? ⟨g1, j * 10 + 9, none⟩ = some (.bool st) ∧ W.cell? ⟨gb2, j * 10, none⟩ = some (.int .u8 (a.toNat : Int)) ∧ W.cell? ⟨gb2, j * 10 + 1, none⟩ = some (.int .u8 (b.toNat : Int)) ∧ W.cell? ⟨gb2, j * 10 + 2, none⟩ = some (.int .u8 (c.toNat : Int)) ∧ W.cell? ⟨gb2, j * 10 + 3, none⟩ = some (.int .u8 (d.toNat : Int)) ∧ W.cell? ⟨gb2, j * 10 + 4, none⟩ = some (.int .u8 (e.toNat : Int)) ∧ W.cell? ⟨gb2, j * 10 + 5, none⟩ = some (.int .u8 (f.toNat : Int)) ∧ W.cell? ⟨gb2, j * 10 + 6, none⟩ = some (.bool tu) ∧ W.cell? ⟨gb2, j * 10 + 7, none⟩ = some (.int .i64 en) ∧ W.cell? ⟨gb2, j * 10 + 8, none⟩ = some (.int .u64 at_) ∧ W.cell? ⟨gb2, j * 10 + 9, none⟩ = some (.bool st)))
                (first | exact SG.out _ (Fr.refl _ _).drew | exact SG.out _ ((Fr.refl _ _).drew.trans f16) | go_keep)
                (first | (go_at_call 17; refine (CPE.out _).mono ?_; rintro e w16 ⟨rfl, f16⟩))
              have F16 := Lib.hid (F15.out.trans ((Fr.refl No wr).drew.trans f16))
              clear f16 eM eP ea es r2 z0 z1 z2 z3 z4 z5 z6 z7 z8 z9 y0 y1 y2 y3 y4 y5 y6 y7 y8 y9 SG CPE
              go_wp2_with fail
              go_roundw
              case rel => exact ⟨j + 1, by omega, by go_num, F16.out⟩
              case measure => simp [intOf]; omega
            · have hj2 : j = n2 := by omega
              clear hj2 f15
              go_wp2_with fail
              go_roundw
              case rel => exact ⟨k + 1, nv, A1, by omega, by omega, by go_num, rfl, nv0, nv1, H14.out.no F15.out⟩
              case measure => simp [intOf]; omega
    · have hst : ¬ k < n ∨ (k < n ∧ ¬ k < 300) := by omega
      rcases hst with l1 | ⟨l1, l2⟩
      all_goals
        go_wp2_with fail
        go_ret
        exact ⟨rfl, H4.out.2.2.1⟩
end Go.Proofs.YtgmaelndhmnjiaaDoor

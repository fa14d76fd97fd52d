/- FdbForgets. -/
import Derived.Test.YtgmaelndhmnjiaaDoorLawFdbAges
import Derived.Test.YtgmaelndhmnjiaaDoorLiftFd
namespace Go.Proofs.YtgmaelndhmnjiaaDoor
open Go.RowKit
set_option linter.unusedVariables false
set_option linter.unusedSimpArgs false

set_option maxRecDepth 100000 in
theorem eqM_at (d : Nat) (m : Mac) (w : World) : (Op.equalIn (d + 2) 31 (.agg #[byteV m.a, byteV m.b, byteV m.c, byteV m.d, byteV m.e, byteV m.f]) (.agg #[byteV m.a, byteV m.b, byteV m.c, byteV m.d, byteV m.e, byteV m.f])).run Tryd.prog w = .ok true w := by
  have h := run_equalIn_bytes (P := Tryd.prog) w d 31 5 6 Tryd.underlying31 Tryd.underlying5 (fun w => Tryd.sizeOf5 w) (macL m) (macL m) rfl rfl
  have e : (macL m == macL m) = true := by simp
  rw [e] at h
  exact h
set_option maxRecDepth 100000 in
theorem neqE_self (e : En) (w : World) : (binOp .neq 60 (evE e) (evE e)).run Tryd.prog w = .ok (.bool false) w := by
  have u3 := Tryd.underlying3
  have u4 := Tryd.underlying4
  have u5 := Tryd.underlying25
  have a3 := Tryd.isAgg3
  have a4 := Tryd.isAgg4
  have a5 := Tryd.isAgg25
  have a6 := Tryd.isAgg31
  have a7 := Tryd.isAgg33
  have z3 := Tryd.sizeOf3
  have z4 := Tryd.sizeOf4
  have z5 := Tryd.sizeOf25
  have z6 := Tryd.sizeOf31
  have z7 := Tryd.sizeOf33
  have hS : Tryd.prog.underlying 60 = some (.struct (Tryd.prog.fieldsOf 60)) := by kernel_rfl
  have hp : Tryd.prog.stoodInHeld 60 = false := by kernel_rfl
  have hM : ∀ w, (Op.equalIn 9999 31 (.agg #[byteV e.mac.a, byteV e.mac.b, byteV e.mac.c, byteV e.mac.d, byteV e.mac.e, byteV e.mac.f]) (.agg #[byteV e.mac.a, byteV e.mac.b, byteV e.mac.c, byteV e.mac.d, byteV e.mac.e, byteV e.mac.f])).run Tryd.prog w = .ok true w := fun w => by
    have h := eqM_at 9997 e.mac w
    exact h
  have hP : ∀ w, (Op.equalIn 9999 33 (.agg #[.bool e.tun, .int .i64 e.n]) (.agg #[.bool e.tun, .int .i64 e.n])).run Tryd.prog w = .ok true w := fun w => by
    have hS2 : Tryd.prog.underlying 33 = some (.struct (Tryd.prog.fieldsOf 33)) := by kernel_rfl
    have hp2 : Tryd.prog.stoodInHeld 33 = false := by kernel_rfl
    rw [show (9999 : Nat) = 9998 + 1 from rfl, run_equalIn_agg w 9998 33 _ _ hS2 hp2]
    simp only [Program.fieldsOf, Tryd.underlying33]
    go_simp
  simp only [evE]
  rw [run_neq_struct, show (10000 : Nat) = 9999 + 1 from rfl, run_equalIn_agg w 9999 60 _ _ hS hp]
  simp only [Program.fieldsOf, Tryd.underlying60]
  go_simp
theorem flat10 {xs : List Stp} {i : Nat} {x : Stp} (hx : xs[i]? = some x) (j : Nat) (hj : j < 10) : (xs.flatMap encS)[i * 10 + j]? = (encS x)[j]? := by
  induction xs generalizing i with
  | nil => cases hx
  | cons y r ih =>
    rw [List.flatMap_cons]
    cases i with
    | zero =>
      simp only [List.getElem?_cons_zero, Option.some.injEq] at hx
      subst hx
      rw [Nat.zero_mul, Nat.zero_add, List.getElem?_append_left (by simpa [encS] using hj)]
    | succ i =>
      rw [List.getElem?_append_right (by simp [encS]; omega), show (i + 1) * 10 + j - (encS y).length = i * 10 + j by simp [encS]; omega]
      exact ih (by simpa using hx)
theorem Ss15.no {w w' : World} {ao : Option Addr} {n cap : Nat} {xs : List Stp} (h : Ss15 w ao n cap xs) (hf : Fr No w w') : Ss15 w' ao n cap xs := ⟨h.1, h.2.1.no hf, h.2.2⟩
/-- The cells of a step. -/
theorem Ss15.at {w : World} {ao : Option Addr} {n cap : Nat} {xs : List Stp} (h : Ss15 w ao n cap xs) {i : Nat} {x : Stp} (hx : xs[i]? = some x) : ∃ a, ao = some a ∧ a.spot = none ∧
    w.cell? ⟨a.block, a.off + i * 10, none⟩ = some (.int .i64 x.kind) ∧ w.cell? ⟨a.block, a.off + i * 10 + 1, none⟩ = some (byteV x.mac.a) ∧ w.cell? ⟨a.block, a.off + i * 10 + 2, none⟩ = some (byteV x.mac.b) ∧
    w.cell? ⟨a.block, a.off + i * 10 + 3, none⟩ = some (byteV x.mac.c) ∧ w.cell? ⟨a.block, a.off + i * 10 + 4, none⟩ = some (byteV x.mac.d) ∧ w.cell? ⟨a.block, a.off + i * 10 + 5, none⟩ = some (byteV x.mac.e) ∧
    w.cell? ⟨a.block, a.off + i * 10 + 6, none⟩ = some (byteV x.mac.f) ∧ w.cell? ⟨a.block, a.off + i * 10 + 7, none⟩ = some (.bool x.pl.tun) ∧ w.cell? ⟨a.block, a.off + i * 10 + 8, none⟩ = some (.int .i64 x.pl.n) ∧ w.cell? ⟨a.block, a.off + i * 10 + 9, none⟩ = some (byteV x.by_) := by
  obtain ⟨hn, hs, -⟩ := h
  have hi := (List.getElem?_eq_some_iff.1 hx).1
  cases ao with
  | none => have := hs.nocap rfl; have := hs.le; omega
  | some a =>
    obtain ⟨x0, hx0⟩ : ∃ x0, xs[0]? = some x0 := ⟨xs[0], List.getElem?_eq_getElem (by omega)⟩
    have hsp : a.spot = none := World.cell?_spot (hs.cell a rfl (0 * 10 + 0) (.int .i64 x0.kind) (flat10 hx0 0 (by omega)))
    have e : ∀ k, a.add k = ⟨a.block, a.off + k, none⟩ := fun k => by
      obtain ⟨b, o, s⟩ := a
      cases hsp
      exact Addr.add_lit _ _ _
    have c := fun j u hj (hu : (encS x)[j]? = some u) => hs.cell a rfl (i * 10 + j) u ((flat10 hx j hj).trans hu)
    simp only [e, ← Nat.add_assoc] at c
    exact ⟨a, rfl, hsp, c 0 _ (by omega) rfl, c 1 _ (by omega) rfl, c 2 _ (by omega) rfl, c 3 _ (by omega) rfl, c 4 _ (by omega) rfl, c 5 _ (by omega) rfl, c 6 _ (by omega) rfl, c 7 _ (by omega) rfl, c 8 _ (by omega) rfl, c 9 _ (by omega) rfl⟩

set_option maxRecDepth 100000 in
set_option maxHeartbeats 8000000 in
theorem FdbForgets_walk {w : World} (hg : EG w) (room : Int) {life : Int} (hl0 : 0 ≤ life) (hl1 : life < 18446744073709551616) {ao : Option Addr} {n cap : Nat} {xs : List Stp} (hs : Ss15 w ao n cap xs) (p : Pl) :
    Calls Tryd.prog 7 #[.int .i64 room, .int .u64 life, .slice ao n cap, evPL p] w (ShownF w) := by
  have HGA := Lib.hid hg
  have HS := Lib.hid hs
  have HN := Lib.hid hs.1
  have hc1 := hs.2.1.le
  have hc2 := hs.2.1.capLe
  clear hg hs
  obtain ⟨pt, pn⟩ := p
  unfold evPL
  simp only
  go_enter Tryd.func7, Tryd.ntmps7
  go_wp2_with fail
  have B1 := Lib.hid (heap_alloc_new w (.cells #[.bool pt, .int .i64 pn] 33))
  have F1 := Lib.hid ((Fr.refl No w).alloc (.cells #[.bool pt, .int .i64 pn] 33))
  generalize World.alloc _ _ = w1 at B1 F1 ⊢
  refine (l15shown_any (HGA.out.no F1.out)).mono ?_
  rintro e w2 ⟨rfl, f2⟩
  have B2 := Lib.hid (f2.heap B1.out (fun h => h))
  have F2 := Lib.hid (F1.out.then_no f2)
  clear f2 B1 F1
  go_wp2_with fail
  obtain ⟨rm, hrm⟩ : ∃ rm, min (max room 1) 64 = rm := ⟨_, rfl⟩
  refine (fbNew_n w2 room life hl0 hl1 hrm).mono ?_
  rintro e w3 ⟨tb, mb, rfl, h3, f3⟩
  have H3 := Lib.hid h3
  have S2 := Lib.hid F2.out.size
  have B3 := Lib.hid (f3.heap B2.out (fun h => h))
  have F3 := Lib.hid (F2.out.then_no f3)
  clear h3 f3 F2 B2 hrm
  obtain ⟨B, hB⟩ : ∃ B, w2.heap.size = B := ⟨_, rfl⟩
  rw [hB] at H3 S2
  clear hB
  go_wp2_with fail
  go_loopw [11, 12] (fun t11 t12 wr => ∃ (k : Nat) (nw : Int) (A : AL), k ≤ n ∧ k ≤ 100 ∧ t12 = .int .i64 k ∧ t11 = .int .u64 nw ∧ 0 ≤ nw ∧ nw ≤ 255 * (k : Int) ∧ FdN B wr tb mb rm life A ∧ Fr No w wr ∧ wr.heap[w.heap.size]? = some (.cells #[.bool pt, .int .i64 pn] 33 (0, 0)))
    (fun _ t12 _ => n - (intOf t12).toNat)
  case atStart => exact ⟨0, 0, [], by omega, by omega, rfl, rfl, by omega, by omega, H3.out, F3.out, B3.out⟩
  case round =>
    clear H3 F3 B3
    obtain ⟨k, nw, A, hk, hk2, rfl, rfl, hw0, hw1, h4, f4, b4⟩ := hrel
    have H4 := Lib.hid h4
    have F4 := Lib.hid f4
    have B4 := Lib.hid b4
    clear h4 f4 b4
    by_cases hlt : k < n ∧ k < 100
    · obtain ⟨l1, l2⟩ := hlt
      obtain ⟨x, hx⟩ : ∃ x, xs[k]? = some x := ⟨xs[k]'(by rw [← HN.out]; exact l1), List.getElem?_eq_getElem _⟩
      obtain ⟨a, rfl, hsp, c0, c1, c2, c3, c4, c5, c6, c7, c8, c9⟩ := (HS.out.no F4.out).at hx
      have HXO := Lib.hid (HS.out.2.2 x (List.mem_of_getElem? hx))
      obtain ⟨ab, aoff, asp⟩ := a
      simp only at hsp c0 c1 c2 c3 c4 c5 c6 c7 c8 c9
      subst hsp
      have by0 : (x.by_.toNat : Int) < 256 := by have := x.by_.toNat_lt; omega
      have by1 : (0 : Int) ≤ (x.by_.toNat : Int) := by omega
      unfold byteV at c9
      clear hx
      go_wp2_with fail
      refine (l15does_n H4.out x HXO.out (now := nw + (x.by_.toNat : Int)) (by omega) (by omega) rfl).mono ?_
      rintro e w5 ⟨rfl, h5, f5, k5⟩
      have H5 := Lib.hid h5
      have F5 := Lib.hid (F4.out.upb S2.out f5)
      have B5 := Lib.hid (k5 _ _ B4.out rfl)
      clear h5 f5 k5 c0 c1 c2 c3 c4 c5 c6 c7 c8 c9
      simp only [Act.put]
      go_wp2_with fail
      go_roundw
      case rel => exact ⟨k + 1, nw + (x.by_.toNat : Int), _, by omega, by omega, by go_num, rfl, by omega, by omega, H5.out, F5.out, B5.out⟩
      case measure => simp [intOf]; omega
    · have hst : ¬ k < n ∨ (k < n ∧ ¬ k < 100) := by omega
      rcases hst with l1 | ⟨l1, l2⟩
      all_goals go_wp2_with fail
      all_goals
        refine (fbList_n H4.out).mono ?_
        rintro e w5 ⟨lo, lc, rfl, ho, hln, f5⟩
        have H5 := Lib.hid (H4.out.no f5)
        have O5 := Lib.hid ho
        have F5 := Lib.hid (F4.out.then_no f5)
        have B5 := Lib.hid (f5.heap B4.out (fun h => h))
        clear f5 hln ho H4 F4 B4
        obtain ⟨q0, q1⟩ := cells2 B5.out
        go_wp2_with fail
        obtain ⟨D, hD⟩ : ∃ D, aforget A ⟨pt, pn⟩ = D := ⟨_, rfl⟩
        refine (fbForget_n H5.out ⟨pt, pn⟩ (c := (A.length : Int) - (D.length : Int)) (by rw [hD])).mono ?_
        rw [hD]
        have HD := Lib.hid hD
        rintro e w6 ⟨rfl, ⟨h6, f6, k6⟩, i6⟩
        have H6 := Lib.hid h6
        have F6 := Lib.hid (F5.out.upb S2.out f6)
        have B6 := Lib.hid (k6 _ _ B5.out rfl)
        have O6 := Lib.hid (O5.out.fr i6 (O5.out.not_map H5.out.mp))
        clear h6 f6 k6 i6 H5 F5 B5 O5 hD q0 q1
        go_wp2_with fail
        refine (fbList_n H6.out).mono ?_
        rintro e w7 ⟨no, nc, rfl, hno, hnn, f7⟩
        have N7 := Lib.hid hno
        have O7 := Lib.hid (O6.out.no f7)
        have F7 := Lib.hid (F6.out.then_no f7)
        have B7 := Lib.hid (f7.heap B6.out (fun h => h))
        have hA64 := H6.out.le
        have hAl : A.length ≤ 9223372036854775807 := by have := O7.out.le; have := O7.out.capLe; omega
        have hDl : D.length ≤ 9223372036854775807 := by have := N7.out.le; have := N7.out.capLe; omega
        have hO1 := O7.out.le
        have hO2 := O7.out.capLe
        have hN1 := N7.out.le
        have hN2 := N7.out.capLe
        clear f7 hno hnn H6 F6 B6 O6 hA64
        go_wp2_with fail
        go_loopw [16, 17] (fun t16 t17 wr2 => ∃ (i j : Nat), i ≤ A.length ∧ t17 = .int .i64 i ∧ t16 = .int .i64 j ∧ j = (aforget (A.take i) ⟨pt, pn⟩).length ∧ Fr No w7 wr2) (fun _ t17 _ => A.length - (intOf t17).toNat)
        case atStart => exact ⟨0, 0, by omega, rfl, rfl, rfl, Fr.refl _ _⟩
        case round =>
          obtain ⟨i, j, hi, rfl, rfl, hj, hf8⟩ := hrel
          have F8 := Lib.hid hf8
          have HJ := Lib.hid hj
          clear hf8 hj
          by_cases hia : i < A.length
          · obtain ⟨e, he⟩ : ∃ e, A[i]? = some e := ⟨A[i], List.getElem?_eq_getElem hia⟩
            have hsn : A.take (i + 1) = A.take i ++ [e] := by rw [List.take_add_one, he]; rfl
            have hfn : aforget (A.take (i + 1)) ⟨pt, pn⟩ = aforget (A.take i) ⟨pt, pn⟩ ++ (if e.pl = ⟨pt, pn⟩ then [] else [e]) := by
              unfold aforget
              rw [hsn, List.filter_append, List.filter_cons, List.filter_nil]
              by_cases h : e.pl = ⟨pt, pn⟩ <;> simp [h]
            obtain ⟨lb, rfl, cw⟩ := own_entry (O7.out.no F8.out) he
            have d0 := cw 0 _ rfl
            have d1 := cw 1 _ rfl
            have d2 := cw 2 _ rfl
            have d3 := cw 3 _ rfl
            have d4 := cw 4 _ rfl
            have d5 := cw 5 _ rfl
            have d6 := cw 6 _ rfl
            have d7 := cw 7 _ rfl
            have d8 := cw 8 _ rfl
            have d9 := cw 9 _ rfl
            rw [Nat.add_zero] at d0
            obtain ⟨q0, q1⟩ := cells2 (F8.out.heap B7.out (fun h => h))
            have bi0 : (0 : Int) ≤ (i : Int) := by omega
            have bi1 : (i : Int) < (A.length : Int) := by omega
            have HE := Lib.hid he
            have HFN := Lib.hid hfn
            clear cw hsn hfn he
            by_cases hpe : e.pl = ⟨pt, pn⟩
            · have heq : ∀ W, (binOp .eql 33 (.agg #[.bool e.tun, .int .i64 e.n]) (.agg #[.bool pt, .int .i64 pn])).run Tryd.prog W = .ok (.bool true) W := fun W => by
                have := eqPl e.pl ⟨pt, pn⟩ W
                rw [decide_eq_true hpe] at this; exact this
              have hlen : (aforget (A.take (i + 1)) ⟨pt, pn⟩).length = (aforget (A.take i) ⟨pt, pn⟩).length := by rw [HFN.out, if_pos hpe]; simp
              have HL := Lib.hid hlen
              clear hpe hlen
              go_wp2_with fail
              go_quiet (fail)
              generalize hw9 : World.drewN _ _ = w9
              have F9 := Lib.hid (show Fr No w7 w9 by rw [← hw9]; exact F8.out.drewN _)
              clear hw9 d0 d1 d2 d3 d4 d5 d6 d7 d8 d9 q0 q1 heq
              go_wp2_with fail
              go_roundw
              case rel => exact ⟨i + 1, j, by omega, by go_num, rfl, by rw [HL.out]; exact HJ.out, F9.out⟩
              case measure => simp [intOf]; omega
            · have heq : ∀ W, (binOp .eql 33 (.agg #[.bool e.tun, .int .i64 e.n]) (.agg #[.bool pt, .int .i64 pn])).run Tryd.prog W = .ok (.bool false) W := fun W => by
                have := eqPl e.pl ⟨pt, pn⟩ W
                rw [decide_eq_false hpe] at this; exact this
              have hlen : (aforget (A.take (i + 1)) ⟨pt, pn⟩).length = (aforget (A.take i) ⟨pt, pn⟩).length + 1 := by rw [HFN.out, if_neg hpe]; simp
              have HL := Lib.hid hlen
              have hDj : D[j]? = some e := by
                have h1 : aforget A ⟨pt, pn⟩ = aforget (A.take i) ⟨pt, pn⟩ ++ aforget (A.drop i) ⟨pt, pn⟩ := by unfold aforget; rw [← List.filter_append, List.take_append_drop]
                have h2 : A[i] = e := by have := HE.out; rw [List.getElem?_eq_getElem hia] at this; exact Option.some.inj this
                rw [← HD.out, HJ.out, h1, List.getElem?_append_right (Nat.le_refl _), Nat.sub_self, List.drop_eq_getElem_cons hia, h2]
                unfold aforget
                rw [List.filter_cons, if_pos (by simpa using hpe)]
                rfl
              have hjD := (List.getElem?_eq_some_iff.1 hDj).1
              have HDJ := Lib.hid hDj
              clear hpe hlen hDj
              go_wp2_with fail
              go_quiet (fail)
              generalize hw9 : World.drewN _ _ = w9
              have F9 := Lib.hid (show Fr No w7 w9 by rw [← hw9]; exact F8.out.drewN _)
              clear hw9 d0 d1 d2 d3 d4 d5 d6 d7 d8 d9 q0 q1 heq
              obtain ⟨lb', hlb, cw⟩ := own_entry (O7.out.no F9.out) HE.out
              cases hlb
              obtain ⟨ib, rfl, ci⟩ := own_entry (N7.out.no F9.out) HDJ.out
              have d0 := cw 0 _ rfl
              have d1 := cw 1 _ rfl
              have d2 := cw 2 _ rfl
              have d3 := cw 3 _ rfl
              have d4 := cw 4 _ rfl
              have d5 := cw 5 _ rfl
              have d6 := cw 6 _ rfl
              have d7 := cw 7 _ rfl
              have d8 := cw 8 _ rfl
              have d9 := cw 9 _ rfl
              have e0 := ci 0 _ rfl
              have e1 := ci 1 _ rfl
              have e2 := ci 2 _ rfl
              have e3 := ci 3 _ rfl
              have e4 := ci 4 _ rfl
              have e5 := ci 5 _ rfl
              have e6 := ci 6 _ rfl
              have e7 := ci 7 _ rfl
              have e8 := ci 8 _ rfl
              have e9 := ci 9 _ rfl
              rw [Nat.add_zero] at d0 e0
              have bj0 : (0 : Int) ≤ (j : Int) := by omega
              have bj1 : (j : Int) < (D.length : Int) := by omega
              have bj2 : decide ((D.length : Int) ≤ (j : Int)) = false := by simp; omega
              have bj3 : decide (D.length ≤ j) = false := by simp; omega
              have hne := neqE_self e
              simp only [evE] at hne
              clear cw ci
              go_wp2_with fail
              go_quiet (fail)
              generalize hwa : World.drewN _ _ = wa
              have FA := Lib.hid (show Fr No w7 wa by rw [← hwa]; exact F9.out.drewN _)
              clear hwa d0 d1 d2 d3 d4 d5 d6 d7 d8 d9 e0 e1 e2 e3 e4 e5 e6 e7 e8 e9 hne
              go_wp2_with fail
              go_roundw
              case rel => exact ⟨i + 1, j + 1, by omega, by go_num, by go_num, by rw [HL.out, ← HJ.out], FA.out⟩
              case measure => simp [intOf]; omega
          · have hie : i = A.length := by omega
            have hje : j = D.length := by rw [HJ.out, hie, List.take_length, HD.out]
            subst hie hje
            go_wp2_with fail
            go_ret
            exact ⟨rfl, F7.out.then_no F8.out⟩
end Go.Proofs.YtgmaelndhmnjiaaDoor

/- RouteLongest: its walk. -/
import Derived.Test.YtapiaaffnhmmiaaRt8
namespace Go.Proofs.Ytapiaaffnhmmiaa
open Go.RowKit
set_option linter.unusedVariables false
set_option linter.unusedSimpArgs false

/-- What Find tells, in parts. -/
theorem find_parts {l : RL} (g : Good l) (ip : Int) : ∃ (q0 q1 q2 q3 : Int) (k : Bool) (x : Option Rt), x.getD ⟨0, 0, 0, 0⟩ = ⟨q0, q1, q2, q3⟩ ∧ x.isSome = k ∧ findN l ip 33 = x ∧
    (k = true → (⟨q0, q1, q2, q3⟩ : Rt) ∈ l.map (·.2) ∧ cutN ip q1 = q0 ∧ ∀ r' ∈ l.map (·.2), cov ip r' → r'.bits ≤ q1) ∧ (k = false → (∀ r' ∈ l.map (·.2), ¬ cov ip r')) := by
  cases h : findN l ip 33 with
  | none => exact ⟨0, 0, 0, 0, false, none, rfl, rfl, rfl, fun h => (by cases h), fun _ => g.find_none.1 h⟩
  | some r =>
    obtain ⟨a, b, c, d⟩ := r
    exact ⟨a, b, c, d, true, some ⟨a, b, c, d⟩, rfl, rfl, rfl, fun _ => g.find_some.1 h, fun h => (by cases h)⟩
theorem flat4 {ys : List Rt} {i : Nat} {y : Rt} (h : ys[i]? = some y) (j : Nat) (hj : j < 4) : (ys.flatMap encR)[i * 4 + j]? = (encR y)[j]? := by
  have hi := (List.getElem?_eq_some_iff.1 h).1
  rw [flatMap_get (k := 4) (fun _ => rfl) (by omega) ys (i * 4 + j) (by omega)]
  rw [show (i * 4 + j) / 4 = i by omega, show (i * 4 + j) % 4 = j by omega, h]
  rfl
theorem rows4_at {w : World} {g n cap : Nat} {ys : List Rt} (h : Sl w (some ⟨g, 0, none⟩) n cap (ys.flatMap encR)) {i : Nat} {y : Rt} (hy : ys[i]? = some y) :
    w.cell? ⟨g, i * 4, none⟩ = some (.int .u32 y.dst) ∧ w.cell? ⟨g, i * 4 + 1, none⟩ = some (.int .i64 y.bits) ∧ w.cell? ⟨g, i * 4 + 2, none⟩ = some (.int .u32 y.via) ∧ w.cell? ⟨g, i * 4 + 3, none⟩ = some (.int .i64 y.out) := by
  have c := fun j u hj (hu : (encR y)[j]? = some u) => h.cell _ rfl (i * 4 + j) u ((flat4 hy j hj).trans hu)
  simp only [Addr.add_lit, Nat.zero_add] at c
  exact ⟨c 0 _ (by omega) rfl, c 1 _ (by omega) rfl, c 2 _ (by omega) rfl, c 3 _ (by omega) rfl⟩

def TV (tv : Bool) (q : Rt) (l : List Rt) : Prop := tv = true ↔ q ∈ l
theorem mem_step {tv yq : Bool} {y q : Rt} {l : List Rt} (h : TV tv q l) (hy : decide (y = q) = yq) : TV (tv || yq) q (l ++ [y]) := by
  subst hy
  unfold TV at *
  simp only [Bool.or_eq_true, decide_eq_true_eq, List.mem_append, List.mem_singleton, h]
  constructor
  · rintro (h | h)
    · exact .inl h
    · exact .inr h.symm
  · rintro (h | h)
    · exact .inl h
    · exact .inr h.symm

set_option maxRecDepth 100000 in
set_option maxHeartbeats 4000000 in
theorem RouteLongest_walk {w : World} {ao : Option Addr} {n cap : Nat} {xs : List St8} (hs : Ss w ao n cap xs) (ip : Int) (h0 : 0 ≤ ip) (h1 : ip < 4294967296) :
    Calls Try.prog 4 #[.slice ao n cap, .int .u32 ip] w (ShownP w) := by
  have hn := hs.1
  have hc1 := hs.2.1.le
  have hc2 := hs.2.1.capLe
  have HS := Lib.hid hs
  have HN := Lib.hid hn
  clear hs hn
  go_enter Try.func4, Try.ntmps4
  go_wp2_with (first | (go_at_call 9; refine (l8shown_any _).mono ?_; rintro e w1 ⟨rfl, f1⟩; have F1 := Lib.hid f1; clear f1) | (go_at_call 10; refine (rtNew_any _).mono ?_; rintro e w2 ⟨rfl, t2, f2⟩; have T2 := Lib.hid t2; have F2 := Lib.hid f2; clear t2 f2))
  obtain ⟨mb, hmb⟩ : ∃ mb, w1.heap.size = mb := ⟨_, rfl⟩
  rw [hmb] at T2 ⊢
  have hmw : w.heap.size ≤ mb := by have := F1.out.size; omega
  have F2' := Lib.hid (F1.out.then_no F2.out)
  clear hmb F1 F2
  go_loopw [7] (fun t7 wr => ∃ k : Nat, k ≤ n ∧ k ≤ 200 ∧ t7 = .int .i64 k ∧ RTb wr (mb + 1) mb (stepsTo [] (xs.take k)) ∧ Fr No w wr) (fun t7 _ => n - (intOf t7).toNat)
  case atStart => exact ⟨0, by omega, by omega, rfl, T2.out, F2'.out⟩
  case round =>
    clear T2 F2'
    obtain ⟨k, hk, hk2, rfl, ht, hf⟩ := hrel
    have hg : Good (stepsTo [] (xs.take k)) := Good.nil.steps (fun x hx => HS.out.2.2 x (List.mem_of_mem_take hx))
    have HG := Lib.hid hg
    have HT := Lib.hid ht
    have HF := Lib.hid hf
    clear hg ht hf
    by_cases hlt : k < n ∧ k < 200
    · obtain ⟨l1, l2⟩ := hlt
      obtain ⟨x, hx⟩ : ∃ x, xs[k]? = some x := ⟨xs[k]'(by rw [← HN.out]; exact l1), List.getElem?_eq_getElem _⟩
      obtain ⟨a, rfl, hsp, c0, c1, c2, c3, c4, c5⟩ := (HS.out.no HF.out).at hx
      have HX := Lib.hid hx
      have hxo := HS.out.2.2 x (List.mem_of_getElem? hx)
      have HXO := Lib.hid hxo
      have htk : xs.take (k + 1) = xs.take k ++ [x] := by rw [List.take_add_one, hx]; rfl
      have HTK := Lib.hid htk
      obtain ⟨ab, aoff, asp⟩ := a
      simp only at hsp c0 c1 c2 c3 c4 c5
      subst hsp
      clear hx hxo htk
      go_wp2_with fail
      refine (l8does_any HT.out HG.out.len x HXO.out rfl rfl).mono ?_
      rintro e w3 ⟨rfl, t3, f3⟩
      have T3 := Lib.hid t3
      have F3 := Lib.hid (HF.out.then f3 (by rintro i hi (rfl : i = _); omega))
      clear t3 f3
      go_wp2_with fail
      go_roundw
      case rel => exact ⟨k + 1, by omega, by omega, by go_num, by rw [HTK.out, stepsTo_snoc]; exact T3.out, F3.out⟩
      case measure => simp [intOf]; omega
    · obtain ⟨m, hm⟩ : ∃ m, m = stepsTo [] (xs.take k) := ⟨_, rfl⟩
      rw [← hm] at HT HG
      have hcase : ¬ k < n ∨ (k < n ∧ ¬ k < 200) := by omega
      clear hm hlt
      rcases hcase with hlt | ⟨hlt, hlt2⟩
      all_goals
        go_wp2_with fail
        obtain ⟨q0, q1, q2, q3, kk, x, hq, hkk, hfx, hkt, hkf⟩ := find_parts HG.out ip
        refine (rtFind_any HT.out h0 h1 hfx).mono ?_
        unfold FindP
        rw [hq, hkk]
        simp only [evR]
        rintro e w6 ⟨rfl, f6⟩
        have fb := f6.alloc (.cells #[.int .u32 q0, .int .i64 q1, .int .u32 q2, .int .i64 q3] 33)
        have T6 := Lib.hid (HT.out.no fb)
        have F6 := Lib.hid (HF.out.then_no fb)
        have hb6 := heap_alloc_new w6 (.cells #[.int .u32 q0, .int .i64 q1, .int .u32 q2, .int .i64 q3] 33)
        have HB6 := Lib.hid hb6
        have KT := Lib.hid hkt
        have KF := Lib.hid hkf
        clear fb f6 hb6 hq hkk hfx hkt hkf HT HF
        go_wp2_with fail
        refine (rtList_any T6.out (by have := HG.out.len; omega)).mono ?_
        rintro e w7 ⟨ao2, n2, cap2, ys, rfl, hn2, hpm, -, how, -, f7⟩
        have F7 := Lib.hid (F6.out.then_no f7)
        have HB7 := Lib.hid (f7.heap HB6.out (fun h => h))
        have HO := Lib.hid how
        have HP := Lib.hid hpm
        have hl2 : n2 ≤ 64 := by have h1 := hpm.length_eq; have h2 := HG.out.len; simp at h1; omega
        have HN2 := Lib.hid hn2
        clear hpm how f7 HB6 F6 T6 hn2
        go_wp2_with fail
        go_loopw [11, 12] (fun t11 t12 wr2 => ∃ (j : Nat) (tv : Bool), j ≤ n2 ∧ t12 = .int .i64 j ∧ t11 = .bool tv ∧ TV tv ⟨q0, q1, q2, q3⟩ (ys.take j) ∧ Fr No w7 wr2) (fun _ t12 _ => n2 - (intOf t12).toNat)
        case atStart => exact ⟨0, false, by omega, rfl, rfl, by simp [TV], Fr.refl _ _⟩
        case round =>
          obtain ⟨j, tv, hj, rfl, rfl, htv, hf2⟩ := hrel
          have HTV := Lib.hid htv
          have HF2 := Lib.hid hf2
          clear htv hf2
          by_cases hlt3 : j < n2
          · obtain ⟨y, hy⟩ : ∃ y, ys[j]? = some y := ⟨ys[j]'(by rw [← HN2.out]; exact hlt3), List.getElem?_eq_getElem _⟩
            have HY := Lib.hid hy
            have HOS := (HO.out.no HF2.out).sl
            cases ao2 with
            | none => exfalso; have := HO.out.nocap rfl; have := HO.out.le; omega
            | some g =>
              obtain ⟨hg0, -⟩ := HO.out.row g rfl
              obtain ⟨gb, goff, gsp⟩ := g
              cases hg0
              obtain ⟨y0, y1, y2, y3⟩ := rows4_at HOS hy
              obtain ⟨b0, b1, b2, b3⟩ := cells4 (HF2.out.heap HB7.out (fun h => h))
              have heq := eqRt y ⟨q0, q1, q2, q3⟩
              obtain ⟨yq, hyq⟩ : ∃ yq, decide (y = (⟨q0, q1, q2, q3⟩ : Rt)) = yq := ⟨_, rfl⟩
              rw [hyq] at heq
              obtain ⟨yd, yb, yv, yo⟩ := y
              simp only [evR] at heq
              simp only at y0 y1 y2 y3
              have HYQ := Lib.hid hyq
              clear HOS hy hyq
              have hc3 := HO.out.le
              have hc4 := HO.out.capLe
              have bj : (j : Int) < (n2 : Int) := by omega
              have hmem : (⟨yd, yb, yv, yo⟩ : Rt) ∈ m.map (·.2) := HP.out.mem_iff.1 (List.mem_of_getElem? HY.out)
              have hcov : (cutN ip yb = yd ∧ kk = true ∧ yb ≤ q1) ∨ cutN ip yb ≠ yd := by
                by_cases hcv : cutN ip yb = yd
                · cases kk
                  · exact absurd hcv (KF.out rfl _ hmem)
                  · exact .inl ⟨hcv, rfl, (KT.out rfl).2.2 _ hmem hcv⟩
                · exact .inr hcv
              have HCV := Lib.hid hcov
              obtain ⟨cc, hcc⟩ : ∃ cc, cutN ip yb = cc := ⟨_, rfl⟩
              have HCC := Lib.hid hcc
              have hsn : ys.take (j + 1) = ys.take j ++ [(⟨yd, yb, yv, yo⟩ : Rt)] := by rw [List.take_add_one, HY.out]; rfl
              have HSN := Lib.hid hsn
              clear hmem hcov hcc hsn
              cases tv
              all_goals
                go_wp2_with fail
                go_quiet (fail)
                generalize hw8 : World.drewN _ _ = w8
                have F8 : Hid (Fr No w7 w8) := Lib.hid (by rw [← hw8]; exact HF2.out.drewN _)
                clear hw8 y0 y1 y2 y3 b0 b1 b2 b3 heq
                obtain ⟨y0, y1, y2, y3⟩ := rows4_at (HO.out.no F8.out).sl HY.out
                obtain ⟨b0, b1, b2, b3⟩ := cells4 (F8.out.heap HB7.out (fun h => h))
                rcases HCV.out with ⟨hc5, rfl, hle⟩ | hne
                · have hcy : cc = yd := by rw [← HCC.out]; exact hc5
                  have hgt : decide (q1 < yb) = false := by simpa using hle
                  have HCY := Lib.hid hcy
                  clear hc5 hcy
                  go_wp2_with fail
                  go_quiet ((go_at_call 19; exact rtCut_q _ _ h0 h1 (HCC.out.trans HCY.out)))
                  go_wp2_with fail
                  go_roundw
                  case rel =>
                    have hms := mem_step HTV.out HYQ.out
                    rw [← HSN.out] at hms
                    exact ⟨j + 1, _, by omega, by go_num, rfl, hms, F8.out.drewN _⟩
                  case measure => simp [intOf]; omega
                · have hcy : (cc == yd) = false := by simpa [HCC.out] using hne
                  clear hne
                  go_wp2_with fail
                  go_quiet ((go_at_call 19; exact rtCut_q _ _ h0 h1 HCC.out))
                  go_wp2_with fail
                  go_roundw
                  case rel =>
                    have hms := mem_step HTV.out HYQ.out
                    rw [← HSN.out] at hms
                    exact ⟨j + 1, _, by omega, by go_num, rfl, hms, F8.out.drewN _⟩
                  case measure => simp [intOf]; omega
          · have hjn : j = n2 := by omega
            subst hjn
            have htk : ys.take j = ys := List.take_of_length_le (by rw [← HN2.out]; exact Nat.le_refl _)
            have htv2 : kk = true → tv = true := fun h => HTV.out.2 (by rw [htk]; exact HP.out.mem_iff.2 (KT.out h).1)
            have hcq : kk = true → cutN ip q1 = q0 := fun h => (KT.out h).2.1
            obtain ⟨b0, b1, b2, b3⟩ := cells4 (HF2.out.heap HB7.out (fun h => h))
            have HCQ := Lib.hid hcq
            have h64 : decide ((j : Int) ≤ 64) = true := by simp; omega
            clear htk hcq HTV
            cases kk
            · clear htv2
              go_wp2_with fail
              go_quiet (fail)
              go_wp2_with fail
              go_ret
              exact ⟨rfl, (F7.out.then_no HF2.out).drewN _⟩
            · obtain rfl := htv2 rfl
              have HCQ2 := Lib.hid (HCQ.out rfl)
              clear htv2 HCQ
              go_wp2_with fail
              go_quiet ((go_at_call 19; exact rtCut_q _ _ h0 h1 HCQ2.out))
              go_wp2_with fail
              go_ret
              exact ⟨rfl, (F7.out.then_no HF2.out).drewN _⟩
end Go.Proofs.Ytapiaaffnhmmiaa

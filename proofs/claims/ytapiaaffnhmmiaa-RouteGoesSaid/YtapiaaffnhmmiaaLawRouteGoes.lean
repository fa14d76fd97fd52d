/- RouteGoes: its walk. -/
import Derived.Test.YtapiaaffnhmmiaaRt8
import Derived.Test.YtapiaaffnhmmiaaLawRouteLongest
namespace Go.Proofs.Ytapiaaffnhmmiaa
open Go.RowKit
set_option linter.unusedVariables false
set_option linter.unusedSimpArgs false

theorem goes_mem {m : RL} (g : Good m) {x r : Rt} (hx : x ∈ m.map (·.2)) : r ∈ (mdel m (x.dst, x.bits)).map (·.2) ↔ r ∈ m.map (·.2) ∧ r ≠ x := by
  constructor
  · intro h
    obtain ⟨p, hp, rfl⟩ := List.mem_map.1 h
    obtain ⟨h1, h2⟩ := mem_mdel.1 hp
    refine ⟨List.mem_map.2 ⟨p, h1, rfl⟩, fun e => h2 ?_⟩
    rw [g.key p h1, e]
  · rintro ⟨h1, h2⟩
    obtain ⟨p, hp, rfl⟩ := List.mem_map.1 h1
    refine List.mem_map.2 ⟨p, mem_mdel.2 ⟨hp, fun e => h2 ?_⟩, rfl⟩
    have h3 := g.mem hx
    obtain ⟨k, v⟩ := p
    simp only at e
    subst e
    exact Option.some.inj ((mget_of_mem g.nd hp).symm.trans h3)
/-- What is found ahead of a Del, and behind. -/
theorem goes_find {m : RL} (g : Good m) {x : Rt} (hx : x ∈ m.map (·.2)) (ip : Int) : ∃ (a b c d a' b' c' d' : Int) (one two : Bool) (u v : Option Rt), findN m ip 33 = u ∧ findN (mdel m (x.dst, x.bits)) ip 33 = v ∧
    u.getD ⟨0, 0, 0, 0⟩ = ⟨a, b, c, d⟩ ∧ u.isSome = one ∧ v.getD ⟨0, 0, 0, 0⟩ = ⟨a', b', c', d'⟩ ∧ v.isSome = two ∧
    ((one = true ∧ (⟨a, b, c, d⟩ : Rt) = x ∧ two = true ∧ (⟨a', b', c', d'⟩ : Rt) ≠ x) ∨ (one = true ∧ (⟨a, b, c, d⟩ : Rt) = x ∧ two = false) ∨ (one = true ∧ (⟨a, b, c, d⟩ : Rt) ≠ x ∧ two = true ∧ (⟨a', b', c', d'⟩ : Rt) = ⟨a, b, c, d⟩) ∨ (one = false ∧ two = false)) := by
  have g' := g.del (x.dst, x.bits)
  cases h1 : findN m ip 33 with
  | none =>
    have h2 : findN (mdel m (x.dst, x.bits)) ip 33 = none := by
      rw [g'.find_none]
      intro r hr
      exact g.find_none.1 h1 r ((goes_mem g hx).1 hr).1
    exact ⟨0, 0, 0, 0, 0, 0, 0, 0, false, false, none, none, rfl, h2, rfl, rfl, rfl, rfl, .inr (.inr (.inr ⟨rfl, rfl⟩))⟩
  | some r =>
    by_cases hrx : r = x
    · cases h2 : findN (mdel m (x.dst, x.bits)) ip 33 with
      | none => exact ⟨r.dst, r.bits, r.via, r.out, 0, 0, 0, 0, true, false, some r, none, rfl, rfl, rfl, rfl, rfl, rfl, .inr (.inl ⟨rfl, hrx, rfl⟩)⟩
      | some r' =>
        have := ((goes_mem g hx).1 (g'.find_some.1 h2).1).2
        exact ⟨r.dst, r.bits, r.via, r.out, r'.dst, r'.bits, r'.via, r'.out, true, true, some r, some r', rfl, rfl, rfl, rfl, rfl, rfl, .inl ⟨rfl, hrx, rfl, this⟩⟩
    · have h2 : findN (mdel m (x.dst, x.bits)) ip 33 = some r := by
        obtain ⟨k1, k2, k3⟩ := g.find_some.1 h1
        rw [g'.find_some]
        exact ⟨(goes_mem g hx).2 ⟨k1, hrx⟩, k2, fun r' hr' hc => k3 r' ((goes_mem g hx).1 hr').1 hc⟩
      exact ⟨r.dst, r.bits, r.via, r.out, r.dst, r.bits, r.via, r.out, true, true, some r, some r, rfl, h2, rfl, rfl, rfl, rfl, .inr (.inr (.inl ⟨rfl, hrx, rfl, rfl⟩))⟩
theorem goes_len {m : RL} (g : Good m) {x : Rt} (hx : x ∈ m.map (·.2)) : (mdel m (x.dst, x.bits)).length = m.length - 1 := by
  rw [mdel_length g.nd, g.mem hx]; rfl
theorem goes_twice (m : RL) (k : Int × Int) : mdel (mdel m k) k = mdel m k := by
  unfold mdel; rw [List.filter_filter]; congr 1; funext p; simp
theorem goes_gone (m : RL) (k : Int × Int) : mget (mdel m k) k = none := by
  rw [mget_none]; intro p hp; exact (mem_mdel.1 hp).2

set_option maxRecDepth 100000 in
set_option maxHeartbeats 8000000 in
theorem RouteGoes_walk {w : World} {ao : Option Addr} {n cap : Nat} {xs : List St8} (hs : Ss w ao n cap xs) (kq ip : Int) (h0 : 0 ≤ ip) (h1 : ip < 4294967296) :
    Calls Try.prog 7 #[.slice ao n cap, .int .i64 kq, .int .u32 ip] w (ShownP w) := by
  have hn := hs.1
  have hc1 := hs.2.1.le
  have hc2 := hs.2.1.capLe
  have HS := Lib.hid hs
  have HN := Lib.hid hn
  clear hs hn
  go_enter Try.func7, Try.ntmps7
  go_wp2_with (first | (go_at_call 9; refine (l8shown_any _).mono ?_; rintro e w1 ⟨rfl, f1⟩; have F1 := Lib.hid f1; clear f1) | (go_at_call 10; refine (rtNew_any _).mono ?_; rintro e w2 ⟨rfl, t2, f2⟩; have T2 := Lib.hid t2; have F2 := Lib.hid f2; clear t2 f2))
  obtain ⟨mb, hmb⟩ : ∃ mb, w1.heap.size = mb := ⟨_, rfl⟩
  rw [hmb] at T2 ⊢
  have hmw : w.heap.size ≤ mb := by have := F1.out.size; omega
  have F2' := Lib.hid (F1.out.then_no F2.out)
  clear hmb F1 F2
  go_loopw [9] (fun t9 wr => ∃ k : Nat, k ≤ n ∧ k ≤ 100 ∧ t9 = .int .i64 k ∧ RTb wr (mb + 1) mb (stepsTo [] (xs.take k)) ∧ Fr No w wr) (fun t9 _ => n - (intOf t9).toNat)
  case atStart => exact ⟨0, by omega, by omega, rfl, T2.out, F2'.out⟩
  case round =>
    clear T2 F2'
    obtain ⟨k, hk, hk2, rfl, ht, hf⟩ := hrel
    have hg : Good (stepsTo [] (xs.take k)) := Good.nil.steps (fun x hx => HS.out.2.2 x (List.mem_of_mem_take hx))
    have HG := Lib.hid hg
    have HT := Lib.hid ht
    have HF := Lib.hid hf
    clear hg ht hf
    by_cases hlt : k < n ∧ k < 100
    · obtain ⟨l1, l2⟩ := hlt
      obtain ⟨x, hx⟩ : ∃ x, xs[k]? = some x := ⟨xs[k]'(by rw [← HN.out]; exact l1), List.getElem?_eq_getElem _⟩
      obtain ⟨a, rfl, hsp, c0, c1, c2, c3, c4, c5⟩ := (HS.out.no HF.out).at hx
      have HX := Lib.hid hx
      have hxo := HS.out.2.2 x (List.mem_of_getElem? hx)
      have HXO := Lib.hid hxo
      have htk : xs.take (k + 1) = xs.take k ++ [x] := by rw [List.take_add_one, hx]; rfl
      have HTK := Lib.hid htk
      obtain ⟨ab, aoff, asp⟩ := a
      simp only at hsp c0 c1 c2 c3 c4 c5
      subst hsp
      clear hx hxo htk
      go_wp2_with fail
      refine (l8does_any HT.out HG.out.len x HXO.out rfl rfl).mono ?_
      rintro e w3 ⟨rfl, t3, f3⟩
      have T3 := Lib.hid t3
      have F3 := Lib.hid (HF.out.then f3 (by rintro i hi (rfl : i = _); omega))
      clear t3 f3
      go_wp2_with fail
      go_roundw
      case rel => exact ⟨k + 1, by omega, by omega, by go_num, by rw [HTK.out, stepsTo_snoc]; exact T3.out, F3.out⟩
      case measure => simp [intOf]; omega
    · obtain ⟨m, hm⟩ : ∃ m, m = stepsTo [] (xs.take k) := ⟨_, rfl⟩
      rw [← hm] at HT HG
      have hcase : ¬ k < n ∨ (k < n ∧ ¬ k < 100) := by omega
      clear hm hlt
      rcases hcase with hlt | ⟨hlt, hlt2⟩
      all_goals
        go_wp2_with fail
        refine (rtList_any HT.out (by have := HG.out.len; omega)).mono ?_
        rintro e w7 ⟨ao2, n2, cap2, ys, rfl, hn2, hpm, -, how, hnew, f7⟩
        have F7 := Lib.hid (HF.out.then_no f7)
        have T7 := Lib.hid (HT.out.no f7)
        have HO := Lib.hid how
        have HP := Lib.hid hpm
        have hl2 : n2 ≤ 64 := by have h1 := hpm.length_eq; have h2 := HG.out.len; simp at h1; omega
        have hlm : n2 = m.length := by have h1 := hpm.length_eq; simp at h1; omega
        have HN2 := Lib.hid hn2
        have HLM := Lib.hid hlm
        clear hpm how f7 hn2 hlm hnew HT HF
        by_cases hz : n2 = 0
        · subst hz
          go_wp2_with fail
          go_ret
          exact ⟨rfl, F7.out⟩
        · obtain ⟨q, hq⟩ : ∃ q, bits .and .i64 kq 65535 = q := ⟨_, rfl⟩
          have hq0 : 0 ≤ q := by have := i64_mask16 kq; omega
          obtain ⟨j, hj⟩ : ∃ j : Nat, q % (n2 : Int) = (j : Int) := ⟨(q % (n2 : Int)).toNat, by have := Int.emod_nonneg q (show (n2 : Int) ≠ 0 by omega); omega⟩
          have hjn : j < n2 := by have := Int.emod_lt_of_pos q (show (0 : Int) < n2 by omega); omega
          obtain ⟨x, hx⟩ : ∃ x, ys[j]? = some x := ⟨ys[j]'(by rw [← HN2.out]; exact hjn), List.getElem?_eq_getElem _⟩
          have HX := Lib.hid hx
          have hxm := HP.out.mem_iff.1 (List.mem_of_getElem? hx)
          have HXM := Lib.hid hxm
          cases ao2 with
          | none => exfalso; have := HO.out.nocap rfl; have := HO.out.le; omega
          | some g =>
            obtain ⟨hg0, -⟩ := HO.out.row g rfl
            obtain ⟨gb, goff, gsp⟩ := g
            cases hg0
            obtain ⟨y0, y1, y2, y3⟩ := rows4_at HO.out.sl hx
            obtain ⟨xd, xb, xv, xo⟩ := x
            simp only at y0 y1 y2 y3
            have hc3 := HO.out.le
            have hc4 := HO.out.capLe
            clear hx hxm
            go_wp2_with fail
            obtain ⟨a, b, c, d, a', b', c', d', one, two, u, v, hu, hv, huq, huk, hvq, hvk, hcs⟩ := goes_find HG.out HXM.out ip
            simp only at hv
            have fx := (Fr.refl No w7).alloc (.cells #[.int .u32 xd, .int .i64 xb, .int .u32 xv, .int .i64 xo] 33)
            have X8 := Lib.hid (heap_alloc_new w7 (.cells #[.int .u32 xd, .int .i64 xb, .int .u32 xv, .int .i64 xo] 33))
            have hl7 := lt_of_heap X8.out
            have T8 := Lib.hid (T7.out.no fx)
            have F8 := Lib.hid (F7.out.then_no fx)
            have hcs' := Lib.hid hcs
            have hmx := (mget_some (HG.out.mem HXM.out))
            have HOK := Lib.hid (HG.out.ok _ hmx)
            have HL1 := Lib.hid (goes_len HG.out HXM.out)
            have HG' := Lib.hid (HG.out.del (xd, xb))
            have hb7 : mb < w7.heap.size := T7.out.mp.lt
            simp only at HOK HL1
            clear hcs hmx T7 F7 y0 y1 y2 y3 fx
            generalize w7.heap.size = bx at X8 hl7 hb7 ⊢
            generalize w7.alloc (.cells #[.int .u32 xd, .int .i64 xb, .int .u32 xv, .int .i64 xo] 33) = w8 at X8 T8 F8 hl7 ⊢
            refine (rtFind_any T8.out h0 h1 hu).mono ?_
            unfold FindP
            rw [huq, huk]
            simp only [evR]
            rintro e w9 ⟨rfl, f9⟩
            have fb := f9.alloc (.cells #[.int .u32 a, .int .i64 b, .int .u32 c, .int .i64 d] 33)
            have X9 := Lib.hid (fb.heap X8.out (fun h => h))
            have B9 := Lib.hid (heap_alloc_new w9 (.cells #[.int .u32 a, .int .i64 b, .int .u32 c, .int .i64 d] 33))
            have T9 := Lib.hid (T8.out.no fb)
            have F9 := Lib.hid (F8.out.then_no fb)
            have hb9 : mb < w9.heap.size := Nat.lt_of_lt_of_le T8.out.mp.lt f9.size
            obtain ⟨x0, x1, x2, x3⟩ := cells4 X9.out
            clear X8 T8 F8 f9 fb hl7 huq huk hu
            go_wp2_with fail
            have hne1 : w9.heap.size ≠ mb := by omega
            have hne2 : bx ≠ mb := by omega
            generalize w9.heap.size = bw at B9 hb9 hne1 ⊢
            generalize w9.alloc (.cells #[.int .u32 a, .int .i64 b, .int .u32 c, .int .i64 d] 33) = w10 at X9 B9 T9 F9 x0 x1 x2 x3 ⊢
            refine (rtDel_any T9.out ⟨HOK.out.1, HOK.out.2.1⟩ (c := 0) (l' := mdel m (xd, xb)) (.inr ⟨by rw [HG.out.mem HXM.out]; simp, rfl, rfl⟩)).mono ?_
            rintro e w11 ⟨rfl, t11, f11⟩
            have X11 := Lib.hid (f11.heap X9.out (fun h : _ = _ => hne2 h))
            have B11 := Lib.hid (f11.heap B9.out (fun h : _ = _ => hne1 h))
            have T11 := Lib.hid t11
            have F11 := Lib.hid (F9.out.then f11 (by rintro i hi (rfl : i = _); omega))
            clear X9 B9 T9 F9 t11 f11 x0 x1 x2 x3
            obtain ⟨x0, x1, x2, x3⟩ := cells4 X11.out
            go_wp2_with fail
            refine (rtDel_any T11.out ⟨HOK.out.1, HOK.out.2.1⟩ (c := 6) (l' := mdel m (xd, xb)) (.inl ⟨goes_gone _ _, rfl, rfl⟩)).mono ?_
            rintro e w12 ⟨rfl, t12, f12⟩
            have X12 := Lib.hid (f12.heap X11.out (fun h : _ = _ => hne2 h))
            have B12 := Lib.hid (f12.heap B11.out (fun h : _ = _ => hne1 h))
            have T12 := Lib.hid t12
            have F12 := Lib.hid (F11.out.then f12 (by rintro i hi (rfl : i = _); omega))
            clear X11 B11 T11 F11 t12 f12 x0 x1 x2 x3
            go_wp2_with fail
            refine (rtFind_any T12.out h0 h1 hv).mono ?_
            unfold FindP
            rw [hvq, hvk]
            simp only [evR]
            rintro e w13 ⟨rfl, f13⟩
            have fb := f13.alloc (.cells #[.int .u32 a', .int .i64 b', .int .u32 c', .int .i64 d'] 33)
            have X13 := Lib.hid (fb.heap X12.out (fun h => h))
            have B13 := Lib.hid (fb.heap B12.out (fun h => h))
            have C13 := Lib.hid (heap_alloc_new w13 (.cells #[.int .u32 a', .int .i64 b', .int .u32 c', .int .i64 d'] 33))
            have T13 := Lib.hid (T12.out.no fb)
            have F13 := Lib.hid (F12.out.then_no fb)
            clear X12 B12 T12 F12 f13 fb hvq hvk hv
            have e1 := neqRt ⟨a, b, c, d⟩ ⟨xd, xb, xv, xo⟩
            have e2 := neqRt ⟨a', b', c', d'⟩ ⟨a, b, c, d⟩
            have e3 := eqRt ⟨a', b', c', d'⟩ ⟨xd, xb, xv, xo⟩
            obtain ⟨v1, hv1⟩ : ∃ v1, decide ((⟨a, b, c, d⟩ : Rt) = ⟨xd, xb, xv, xo⟩) = v1 := ⟨_, rfl⟩
            obtain ⟨v2, hv2⟩ : ∃ v2, decide ((⟨a', b', c', d'⟩ : Rt) = ⟨a, b, c, d⟩) = v2 := ⟨_, rfl⟩
            obtain ⟨v3, hv3⟩ : ∃ v3, decide ((⟨a', b', c', d'⟩ : Rt) = ⟨xd, xb, xv, xo⟩) = v3 := ⟨_, rfl⟩
            rw [hv1] at e1
            rw [hv2] at e2
            rw [hv3] at e3
            simp only [evR] at e1 e2 e3
            have hbs : (one = true ∧ v1 = true ∧ two = true ∧ v3 = false) ∨ (one = true ∧ v1 = true ∧ two = false) ∨ (one = true ∧ v1 = false ∧ two = true ∧ v2 = true ∧ v3 = false) ∨ (one = false ∧ two = false) := by
              rcases hcs'.out with ⟨k1, k2, k3, k4⟩ | ⟨k1, k2, k3⟩ | ⟨k1, k2, k3, k4⟩ | ⟨k1, k2⟩
              · exact .inl ⟨k1, by rw [← hv1]; simpa using k2, k3, by rw [← hv3]; simpa using k4⟩
              · exact .inr (.inl ⟨k1, by rw [← hv1]; simpa using k2, k3⟩)
              · refine .inr (.inr (.inl ⟨k1, by rw [← hv1]; simpa using k2, k3, by rw [← hv2]; simpa using k4, ?_⟩))
                rw [← hv3, k4]; simpa using k2
              · exact .inr (.inr (.inr ⟨k1, k2⟩))
            clear hv1 hv2 hv3 hcs' HX hq hj
            obtain ⟨x0, x1, x2, x3⟩ := cells4 X13.out
            obtain ⟨b0, b1, b2, b3⟩ := cells4 B13.out
            obtain ⟨c0, c1, c2, c3⟩ := cells4 C13.out
            rcases hbs with ⟨rfl, rfl, rfl, rfl⟩ | ⟨rfl, rfl, rfl⟩ | ⟨rfl, rfl, rfl, rfl, rfl⟩ | ⟨rfl, rfl⟩
            all_goals
              go_wp2_with fail
              refine (rtList_any T13.out (by have := HG'.out.len; omega)).mono ?_
              rintro e w15 ⟨ao3, n3, cap3, zs, rfl, hn3, hpm3, -, -, -, f15⟩
              have hlen : ((n3 : Nat) : Int) = (n2 : Int) - 1 := by
                have h1 := hpm3.length_eq
                have h2 := HL1.out
                have h3 := HLM.out
                simp at h1
                omega
              have F15 := Lib.hid (F13.out.then_no f15)
              clear f15 hpm3 hn3
              go_wp2_with fail
              go_ret
              exact ⟨rfl, F15.out⟩
end Go.Proofs.Ytapiaaffnhmmiaa

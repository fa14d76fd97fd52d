/- the reference's routes: Add. -/
import Derived.Test.YtapiaaffnhmmiaaRt9
import Derived.Test.YtapiaaffnhmmiaaRegTail
import Derived.Deep.RegionHeld3
import Derived.Deep.DrawnRows
import Derived.Deep.DeepCutAuto
import Derived.Deep.CutBlock
namespace Go.Proofs.Ytapiaaffnhmmiaa
open Go.RowKit
set_option linter.unusedVariables false
set_option linter.unusedSimpArgs false

theorem info_r8route : (Try.prog.info? 36).map (fun i => (i.zero, i.size, i.bytes)) = some (some (.agg #[.int .u32 0, .int .i64 0, .int .u32 0, .int .i64 0]), 4, 32) := by kernel_rfl
theorem flat_len (xs : List Rt) : (xs.flatMap encR).length = xs.length * 4 := by
  induction xs with
  | nil => rfl
  | cons x l ih => rw [List.flatMap_cons, List.length_append, ih, List.length_cons]; show 4 + _ = _; omega
theorem flat_drop (xs : List Rt) (k : Nat) : (xs.flatMap encR).drop (k * 4) = (xs.drop k).flatMap encR := by
  induction xs generalizing k with
  | nil => simp
  | cons x l ih =>
    cases k with
    | zero => simp
    | succ k =>
      rw [List.flatMap_cons, List.drop_succ_cons, ← ih k, List.drop_append, List.drop_of_length_le (by show 4 ≤ _; omega)]
      show [] ++ List.drop ((k + 1) * 4 - 4) _ = _
      rw [show (k + 1) * 4 - 4 = k * 4 by omega]; rfl
theorem flat_take (xs : List Rt) (k : Nat) : (xs.flatMap encR).take (k * 4) = (xs.take k).flatMap encR := by
  have h1 := List.take_append_drop (k * 4) (xs.flatMap encR)
  have h2 : xs.flatMap encR = (xs.take k).flatMap encR ++ (xs.drop k).flatMap encR := by rw [← List.flatMap_append, List.take_append_drop]
  rw [flat_drop] at h1
  exact List.append_cancel_right (h1.trans h2)
theorem Sl.upto {w : World} {ao : Option Addr} {n cap : Nat} {rs : List Rt} (h : Sl w ao n cap (rs.flatMap encR)) {k : Nat} (hk : k ≤ n) : Sl w ao k cap ((rs.take k).flatMap encR) := by
  have h1 := h.le
  have h2 := h.cut (size := 4) 0 k cap (by omega) (by omega) (Nat.le_refl _) (a' := ao) (by split; rfl; cases ao <;> simp [Addr.add_zero'])
  simp only [Nat.sub_zero, Nat.zero_mul, List.drop_zero, flat_take] at h2
  exact h2
theorem Sl.from {w : World} {g n cap : Nat} {rs : List Rt} (hn : n = rs.length) (h : Sl w (some ⟨g, 0, none⟩) n cap (rs.flatMap encR)) {k : Nat} (hk : k ≤ n) :
    Sl w (if cap = k then some ⟨g, 0, none⟩ else some ⟨g, k * 4, none⟩) (n - k) (cap - k) ((rs.drop k).flatMap encR) := by
  have h1 := h.le
  have h2 := h.cut (size := 4) k n cap (by omega) (by omega) (Nat.le_refl _) (a' := if cap = k then some ⟨g, 0, none⟩ else some ⟨g, k * 4, none⟩) (by split; rfl; simp [Addr.add_lit])
  rw [flat_drop, List.take_of_length_le (by rw [flat_len, List.length_drop]; omega)] at h2
  exact h2
def valid8 (r : Rt) : Prop := (0 ≤ r.bits ∧ r.bits ≤ 32) ∧ cutN r.dst r.bits = r.dst
/-- What Add does to the row. -/
def AddR (rs : List Rt) (r : Rt) (c : Int) (rs' : List Rt) : Prop :=
  (¬ valid8 r ∧ c = 1 ∧ rs' = rs) ∨
  (valid8 r ∧ (∃ (i : Nat) (y : Rt), rs[i]? = some y ∧ y.dst = r.dst ∧ y.bits = r.bits ∧ rs' = rs.set i r) ∧ c = 0) ∨
  (valid8 r ∧ (∀ y ∈ rs, ¬ (y.dst = r.dst ∧ y.bits = r.bits)) ∧ 64 ≤ rs.length ∧ c = 5 ∧ rs' = rs) ∨
  (valid8 r ∧ (∀ y ∈ rs, ¬ (y.dst = r.dst ∧ y.bits = r.bits)) ∧ rs.length < 64 ∧ c = 0 ∧ ∃ k, k ≤ rs.length ∧ rs' = rs.take k ++ r :: rs.drop k ∧ (∀ x ∈ rs.take k, ltR x r = true) ∧ (∀ y, rs[k]? = some y → ltR y r = false))
def AddP8 (w : World) (rb : Nat) (ao : Option Addr) (rs : List Rt) (r : Rt) (e : Ending) (w' : World) : Prop :=
  ∃ (ao' : Option Addr) (n' cap' : Nat) (rs' : List Rt) (c : Int), e = .returned (.int .i64 c) ∧ AddR rs r c rs' ∧ R8 w' rb ao' n' cap' rs' ∧ (ao' = ao ∨ ∀ a, ao' = some a → w.heap.size ≤ a.block) ∧ Fr (S8 rb ao) w w'
theorem AddP8.same {w w' : World} {rb n cap : Nat} {ao : Option Addr} {rs : List Rt} {r : Rt} {c : Int} (h : R8 w rb ao n cap rs) (hf : Fr No w w') (ha : AddR rs r c rs) : AddP8 w rb ao rs r (.returned (.int .i64 c)) w' :=
  ⟨ao, n, cap, rs, c, rfl, ha, h.no hf, .inl rfl, hf.of_no⟩

theorem Own.free {w : World} {e size n cap : Nat} {g : Nat} {xs : List Value} (h : Own w e size (some ⟨g, 0, none⟩) n cap xs) (j : Nat) :
    w.frozen? ⟨g, j, none⟩ = false ∧ w.frozen? ⟨g, j + 1, none⟩ = false ∧ w.frozen? ⟨g, j + 2, none⟩ = false ∧ w.frozen? ⟨g, j + 3, none⟩ = false := by
  obtain ⟨-, cur, h2, -⟩ := h.row _ rfl
  exact ⟨frozen_of_row w g _ _ e h2, frozen_of_row w g _ _ e h2, frozen_of_row w g _ _ e h2, frozen_of_row w g _ _ e h2⟩
/-- A store into an owned row. -/
theorem Own.setCell {w : World} {e size n cap : Nat} {g : Nat} {xs : List Value} (h : Own w e size (some ⟨g, 0, none⟩) n cap xs) {j : Nat} (hj : j < n * size) (u : Value) :
    Own (w.setCell ⟨g, j, none⟩ u) e size (some ⟨g, 0, none⟩) n cap (xs.set j u) := by
  refine ⟨by simp [h.len], h.le, h.capLe, h.nocap, fun a ha => ?_⟩
  cases ha
  obtain ⟨-, cur, h2, h3, h4⟩ := h.row _ rfl
  refine ⟨rfl, cur.set! j u, ?_, by simp [h3], ?_⟩
  · simp only [World.setCell, Array.getElem?_modify, if_true, h2, Option.map_some, Option.isSome_none, Bool.false_eq_true, if_false, Array.set!_eq_setIfInBounds]
  · rw [← h4, Array.set!_eq_setIfInBounds, Array.toList_setIfInBounds, List.take_set]
theorem set_flat (rs : List Rt) (i : Nat) (r : Rt) (hi : i < rs.length) : ((((rs.flatMap encR).set (i * 4) (.int .u32 r.dst)).set (i * 4 + 1) (.int .i64 r.bits)).set (i * 4 + 2) (.int .u32 r.via)).set (i * 4 + 3) (.int .i64 r.out) = (rs.set i r).flatMap encR := by
  induction rs generalizing i with
  | nil => simp at hi
  | cons x l ih =>
    cases i with
    | zero => simp [encR]
    | succ i =>
      have := ih i (by simpa using hi)
      rw [List.set_cons_succ, List.flatMap_cons, List.flatMap_cons, ← this]
      have h4 : (encR x).length = 4 := rfl
      rw [show (i + 1) * 4 = 4 + i * 4 by omega]
      simp [List.set_append, h4, Nat.add_assoc]
theorem Sl.cells {w : World} {g n cap : Nat} {rs : List Rt} (h : Sl w (some ⟨g, 0, none⟩) n cap (rs.flatMap encR)) {i : Nat} (hi : i < n) (hn : n = rs.length) :
    ∃ a b c d, w.cell? ⟨g, i * 4, none⟩ = some a ∧ w.cell? ⟨g, i * 4 + 1, none⟩ = some b ∧ w.cell? ⟨g, i * 4 + 2, none⟩ = some c ∧ w.cell? ⟨g, i * 4 + 3, none⟩ = some d := by
  obtain ⟨h0, h1, h2, h3⟩ := rows4_at h (List.getElem?_eq_getElem (show i < rs.length by omega))
  exact ⟨_, _, _, _, h0, h1, h2, h3⟩

/-- append at []Route, at a step of a region that draws its order. -/
theorem step_append_r8 {w : World} {ops : Array Oper} {o : Oper} {a : Act} {K : Act → World → Prop} {Q : Exit → Act → World → Prop} {E : Prop} (s x : Operand)
    (hgd : o.guard = none) (hop : o.op = .call { callee := .builtin .append, args := #[s, x], argTypes := #[27, 27] })
    {ao : Option Addr} {n cap : Nat} (hev : a.eval s = .slice ao n cap) {bo : Option Addr} {m c : Nat} (hex : a.eval x = .slice bo m c)
    {xs ys : List Rt} (h1 : Own w 36 4 ao n cap (xs.flatMap encR)) (h2 : Sl w bo m c (ys.flatMap encR)) (hm : m = ys.length) (hb : n ≤ 1000000) (hb2 : m ≤ 1000000)
    (hK : ∀ ao' cap' w' n', Hid (n' = n + m) → Own w' 36 4 ao' n' cap' ((xs ++ ys).flatMap encR) → Fr (At ao) w w' → (ao' = ao ∨ ∀ a, ao' = some a → w.heap.size ≤ a.block) → K (a.put o.dst (.slice ao' n' cap')) w') :
    if Region.wanted o (yielded ops a.tmps) = true then Oper.wp Try.prog o a w K Q else E := by
  have hw : Region.wanted o (yielded ops a.tmps) = true := by simp [Region.wanted, hgd]
  rw [if_pos hw]
  obtain ⟨i0, hi, hz0, hz1, hz2⟩ := info_parts info_r8route
  obtain ⟨ao', cap', w', hrun, r1, r2, r3, r4, r5⟩ := run_append_U (P := Try.prog) w 27 o.type 36 i0 _ 4 32 Try.underlying27 hi hz0 hz1 hz2 rfl (by decide) ao n cap _ h1 bo m c _ h2 (by rw [hm, flat_len]) (by
    intro u hu
    obtain ⟨r, -, hr⟩ := List.mem_flatMap.1 hu
    simp [encR] at hr
    rcases hr with rfl | rfl | rfl | rfl <;> rfl) (by omega) (by omega)
  unfold Oper.wp
  simp [execOp, hop, resolve, invoke, builtin, hev, hex, hrun, Result.andThen]
  rw [← List.flatMap_append] at r1
  exact hK ao' cap' w' _ (Lib.hid rfl) r1 r2 r3

theorem add_end {w wv wq w7 : World} {rb n cap k n3 cap3 : Nat} {ao ao3 : Option Addr} {rs : List Rt} {r : Rt} (QT : R8 wq rb ao n cap rs) (QF : Fr No w wq) (FV : Fr No w wv) (hsz : wv.heap.size ≤ wq.heap.size)
    (G3 : Fr (Up wq.heap.size) wq w7) (O3 : Own w7 36 4 ao3 n3 cap3 (([] ++ rs.take k ++ [r] ++ rs.drop k).flatMap encR)) (E3 : ∀ a, ao3 = some a → wq.heap.size ≤ a.block)
    (hn : n3 = (rs.take k ++ r :: rs.drop k).length) (HA : AddR rs r 0 (rs.take k ++ r :: rs.drop k)) :
    AddP8 w rb ao rs r (.returned (.int .i64 0)) (w7.setCell ⟨rb, 0, none⟩ (.slice ao3 n3 cap3)) := by
  have hrb : rb < wq.heap.size := lt_of_heap QT.box
  have h1 := G3.heap QT.box (by simp only [Up]; omega)
  have hl := G3.size
  have f1 : Fr (S8 rb ao) wq (w7.setCell ⟨rb, 0, none⟩ (.slice ao3 n3 cap3)) := (G3.mono (fun i hi (h : wq.heap.size ≤ i) => absurd hi (by omega))).setCell (.inl (.inl rfl)) _
  refine ⟨ao3, n3, cap3, _, 0, rfl, HA, ⟨one_setCell h1, hn, ?_, fun a ha => by have := E3 a ha; omega⟩, .inr (fun a ha => Nat.le_trans QF.size (E3 a ha)), QF.of_no.trans f1⟩
  have e : [] ++ rs.take k ++ [r] ++ rs.drop k = rs.take k ++ r :: rs.drop k := by simp
  rw [e] at O3
  exact O3.fr (S := Is rb) ((Fr.refl (Is rb) w7).setCell (p := ⟨rb, 0, none⟩) (.inl rfl) _) (fun a ha (h : a.block = rb) => by have := E3 a ha; omega)

set_option maxRecDepth 100000 in
set_option maxHeartbeats 1000000 in
theorem r8Add_arg {w : World} {rb n cap : Nat} {ao : Option Addr} {rs : List Rt} (h : R8 w rb ao n cap rs) {r : Rt} (hr : r.ok) (hv : ¬ valid8 r) :
    Calls Try.prog 11 #[.pointer (some ⟨rb, 0, none⟩), evR r] w (AddP8 w rb ao rs r) := by
  have H := Lib.hid h
  have HA : Hid (AddR rs r 1 rs) := Lib.hid (.inl ⟨hv, rfl, rfl⟩)
  clear h
  obtain ⟨d, b, v, o⟩ := r
  obtain ⟨⟨hd0, hd1⟩, -⟩ := hr
  obtain ⟨c, hcc⟩ : ∃ c, cutN d b = c := ⟨_, rfl⟩
  unfold valid8 at hv
  simp only at hv hd0 hd1
  rw [hcc] at hv
  have HC := Lib.hid hcc
  clear hcc
  unfold evR
  simp only
  by_cases h1 : b < 0
  · have e1 : decide (b < 0) = true := by simpa using h1
    clear hv
    go_enter Try.func11, Try.ntmps11
    go_wp2
    go_quiet (fail)
    go_wp2
    go_ret
    exact .same H.out (((Fr.refl _ _).alloc _).drewN _) HA.out
  · have e1 : decide (b < 0) = false := by simpa using h1
    by_cases h2 : 32 < b
    · have e2 : decide (32 < b) = true := by simpa using h2
      clear hv
      go_enter Try.func11, Try.ntmps11
      go_wp2
      go_quiet (fail)
      go_wp2
      go_ret
      exact .same H.out (((Fr.refl _ _).alloc _).drewN _) HA.out
    · have e2 : decide (32 < b) = false := by simpa using h2
      have hb1 : (c != d) = true := by simp; intro hh; exact hv ⟨by omega, hh⟩
      clear hv
      go_enter Try.func11, Try.ntmps11
      go_wp2
      go_quiet ((go_at_call 12; exact r8Cut_q _ _ hd0 hd1 HC.out))
      go_wp2
      go_ret
      exact .same H.out (((Fr.refl _ _).alloc _).drewN _) HA.out

set_option maxRecDepth 100000 in
set_option maxHeartbeats 2000000 in
theorem r8Add_in {w : World} {rb n cap : Nat} {ao : Option Addr} {rs : List Rt} (h : R8 w rb ao n cap rs) {r : Rt} (hr : r.ok) (hv : valid8 r) (hl : rs.length ≤ 64) :
    Calls Try.prog 11 #[.pointer (some ⟨rb, 0, none⟩), evR r] w (AddP8 w rb ao rs r) := by
  have hrl := lt_of_heap h.box
  have hc1 := h.own.le
  have hc2 := h.own.capLe
  have hn64 : n ≤ 64 := by rw [h.len]; exact hl
  have H := Lib.hid h
  have HV := Lib.hid hv
  have HR := Lib.hid hr
  clear h
  obtain ⟨d, b, v, o⟩ := r
  obtain ⟨⟨hd0, hd1⟩, -⟩ := hr
  obtain ⟨⟨hb0, hb1⟩, hcc⟩ := hv
  simp only at hd0 hd1 hb0 hb1 hcc
  have HC := Lib.hid hcc
  clear hcc
  unfold evR
  simp only
  have e1 : decide (b < 0) = false := by simp; omega
  have e2 : decide (32 < b) = false := by simp; omega
  have e3 : (d != d) = false := by simp
  go_enter Try.func11, Try.ntmps11
  go_wp2
  go_quiet ((go_at_call 12; exact r8Cut_q _ _ hd0 hd1 HC.out))
  clear e1 e2 e3
  generalize hwv : World.drewN _ _ = wv
  have FV := Lib.hid (show Fr No w wv by rw [← hwv]; exact ((Fr.refl _ _).alloc _).drewN _)
  have B3 := Lib.hid (show wv.heap[w.heap.size]? = some (.cells #[.int .u32 d, .int .i64 b, .int .u32 v, .int .i64 o] 36 (0, 0)) by
    rw [← hwv]; exact ((Fr.refl No _).drewN _).heap (heap_alloc_new w _) (fun h => h))
  clear hwv
  have T1 := Lib.hid (H.out.no FV.out)
  obtain ⟨k0, k1, k2, k3⟩ := cells4 B3.out
  have lt1 := lt_of_heap B3.out
  have kt := T1.out.cell
  go_wp2_with fail
  refine (r8find_any T1.out d b).mono ?_
  rintro e w2 ⟨⟨z, rfl, hz⟩, rfl⟩
  rcases hz with ⟨rfl, hno⟩ | ⟨i, y, rfl, hy, hy1, hy2⟩
  · have HNO := Lib.hid hno
    clear hno
    by_cases h64 : 64 ≤ n
    · have HA : Hid (AddR rs ⟨d, b, v, o⟩ 5 rs) := Lib.hid (.inr (.inr (.inl ⟨HV.out, HNO.out, by rw [← T1.out.len]; exact h64, rfl, rfl⟩)))
      go_wp2_with fail
      go_ret
      exact .same H.out FV.out HA.out
    · go_upto_block 0 with fail
      go_cut [6] (fun t6 wc => ∃ k : Nat, k ≤ n ∧ t6 = .int .i64 k ∧ Hid (AddR rs ⟨d, b, v, o⟩ 0 (rs.take k ++ ⟨d, b, v, o⟩ :: rs.drop k)) ∧ Fr No wv wc)
      case first =>
        go_wp2_with fail
        go_loopw [6] (fun t6 wr => ∃ k : Nat, k ≤ n ∧ t6 = .int .i64 k ∧ (∀ x ∈ rs.take k, ltR x ⟨d, b, v, o⟩ = true) ∧ Fr No wv wr) (fun t6 _ => n - (intOf t6).toNat)
        case atStart => exact ⟨0, by omega, rfl, by simp, Fr.refl _ _⟩
        case round =>
          obtain ⟨k, hk, rfl, hlt, hf⟩ := hrel
          have HLT := Lib.hid hlt
          have HF := Lib.hid hf
          have HB := Lib.hid (hf.heap B3.out (fun h => h))
          have HT := Lib.hid (T1.out.no hf)
          obtain ⟨k0, k1, k2, k3⟩ := cells4 HB.out
          have kt := HT.out.cell
          clear hlt hf
          have hdone : (∀ y, rs[k]? = some y → ltR y ⟨d, b, v, o⟩ = false) → Hid (AddR rs ⟨d, b, v, o⟩ 0 (rs.take k ++ ⟨d, b, v, o⟩ :: rs.drop k)) := fun hs =>
            Lib.hid (.inr (.inr (.inr ⟨HV.out, HNO.out, by have := T1.out.len; omega, rfl, k, by have := T1.out.len; omega, rfl, HLT.out, hs⟩)))
          have HD := Lib.hid hdone
          clear hdone
          by_cases hkn : k < n
          · obtain ⟨y, hy⟩ : ∃ y, rs[k]? = some y := ⟨rs[k]'(by rw [← T1.out.len]; exact hkn), List.getElem?_eq_getElem _⟩
            obtain ⟨gb, goff, rfl, y0, y1, y2, y3⟩ := rows4_any HT.out.len HT.out.own.sl hy
            have hsn : rs.take (k + 1) = rs.take k ++ [y] := by rw [List.take_add_one, hy]; rfl
            have HSN := Lib.hid hsn
            have HNX : Hid (ltR y ⟨d, b, v, o⟩ = true → ∀ x ∈ rs.take (k + 1), ltR x ⟨d, b, v, o⟩ = true) := Lib.hid (by
              intro h x hx
              rw [HSN.out] at hx
              rcases List.mem_append.1 hx with hx | hx
              · exact HLT.out x hx
              · rw [List.mem_singleton] at hx; rw [hx]; exact h)
            have HDY : Hid (ltR y ⟨d, b, v, o⟩ = false → Hid (AddR rs ⟨d, b, v, o⟩ 0 (rs.take k ++ ⟨d, b, v, o⟩ :: rs.drop k))) := Lib.hid (fun h => HD.out (by intro z hz; rw [hy] at hz; cases hz; exact h))
            clear hy hsn HSN HD
            obtain ⟨yd, yb, yv, yo⟩ := y
            simp only at y0 y1 y2 y3
            obtain ⟨e1, he1⟩ : ∃ e, decide (yd < d) = e := ⟨_, rfl⟩
            obtain ⟨e2, he2⟩ : ∃ e, (yd == d) = e := ⟨_, rfl⟩
            obtain ⟨e3, he3⟩ : ∃ e, decide (yb < b) = e := ⟨_, rfl⟩
            have hlr : ltR ⟨yd, yb, yv, yo⟩ ⟨d, b, v, o⟩ = (e1 || (e2 && e3)) := by rw [← he1, ← he2, ← he3]; unfold ltR; rw [Bool.eq_iff_iff]; simp
            rw [hlr] at HNX HDY
            have bk : (k : Int) < (n : Int) := by omega
            have bk2 : decide ((k : Int) < (n : Int)) = true := by simpa using bk
            clear hlr
            by_cases hgo : (e1 || (e2 && e3)) = true
            · have HN2 := Lib.hid (HNX.out hgo)
              clear HNX HDY
              cases e1
              · obtain ⟨rfl, rfl⟩ : e2 = true ∧ e3 = true := by simpa using hgo
                go_wp2_with fail
                go_quiet (fail)
                go_wp2_with fail
                go_roundw
                case rel => exact ⟨k + 1, by omega, by go_num, HN2.out, HF.out.drewN _⟩
                case measure => simp [intOf]; omega
              · go_wp2_with fail
                go_quiet (fail)
                go_wp2_with fail
                go_roundw
                case rel => exact ⟨k + 1, by omega, by go_num, HN2.out, HF.out.drewN _⟩
                case measure => simp [intOf]; omega
            · have hgo2 : (e1 || (e2 && e3)) = false := by simpa using hgo
              have HA := HDY.out hgo2
              clear HNX HDY hgo
              obtain rfl : e1 = false := by cases e1; rfl; simp at hgo2
              cases e2
              · go_wp2_with fail
                go_quiet (fail)
                go_wp2_with fail
                go_meet
                exact ⟨k, by omega, rfl, HA, HF.out.drewN _⟩
              · obtain rfl : e3 = false := by simpa using hgo2
                go_wp2_with fail
                go_quiet (fail)
                go_wp2_with fail
                go_meet
                exact ⟨k, by omega, rfl, HA, HF.out.drewN _⟩
          · have hkn2 : k = n := by omega
            have bk2 : decide ((k : Int) < (n : Int)) = false := by simp; omega
            have HA := HD.out (by intro y hy; have := (List.getElem?_eq_some_iff.1 hy).1; have := T1.out.len; omega)
            clear HD
            go_wp2_with fail
            go_quiet (fail)
            go_wp2_with fail
            go_meet
            exact ⟨k, by omega, rfl, HA, HF.out.drewN _⟩
      case rest =>
        obtain ⟨k, hk, rfl, HA, hf⟩ := hcut
        have QT := Lib.hid (T1.out.no hf)
        have QB := Lib.hid (hf.heap B3.out (fun h => h))
        have QF := Lib.hid (FV.out.trans hf)
        have hsz := hf.size
        clear hf k0 k1 k2 k3 kt HNO
        rename_i wc
        generalize wc = wq at QT QB QF hsz ⊢
        obtain ⟨k0, k1, k2, k3⟩ := cells4 QB.out
        have kt := QT.out.cell
        have kz : wq.frozen? ⟨rb, 0, none⟩ = false := frozen_of_row wq rb 0 _ _ QT.out.box
        have bk3 : (0 : Int) ≤ (k : Int) := by omega
        have bk4 : (k : Int) ≤ (cap : Int) := by omega
        have bk5 : (k : Int) ≤ (n : Int) := by omega
        have bk6 : (n : Int) ≤ (cap : Int) := by omega
        cases ao with
        | none =>
          obtain rfl : cap = 0 := QT.out.own.nocap rfl
          obtain rfl : n = 0 := by omega
          obtain rfl : k = 0 := by omega
          have HS1 : Hid (∀ W, Fr (Up wq.heap.size) wq W → Sl W none 0 0 ((rs.take 0).flatMap encR)) := Lib.hid (fun W f => (Sl.nil W))
          have HS2 : Hid (∀ W, Fr (Up wq.heap.size) wq W → Sl W none 0 0 ((rs.drop 0).flatMap encR)) := Lib.hid (fun W f => by rw [List.eq_nil_of_length_eq_zero QT.out.len.symm]; exact Sl.nil W)
          have OE := Lib.hid ((Own.made (w := wq) (e := 36) (size := 4) #[] 0 rfl (by decide)).no (Fr.refl No _).drew)
          have OE1 := Lib.hid ((Own.made (w := wq) (e := 36) (size := 4) #[] 0 rfl (by decide)).no ((Fr.refl No _).alloc (.cells #[.int .u32 d, .int .i64 b, .int .u32 v, .int .i64 o] 36)).drew)
          have OE2 := Lib.hid ((Own.made (w := wq.alloc (.cells #[.int .u32 d, .int .i64 b, .int .u32 v, .int .i64 o] 36)) (e := 36) (size := 4) #[] 0 rfl (by decide)).no (Fr.refl No _).drew)
          have OB := Lib.hid ((((Own.made (w := wq.alloc (.cells #[] 36)) (e := 36) (size := 4) #[.int .u32 d, .int .i64 b, .int .u32 v, .int .i64 o] 1 rfl (by decide))).no (Fr.refl No _).drew))
          have OC := Lib.hid ((Own.made (w := wq) (e := 36) (size := 4) #[.int .u32 d, .int .i64 b, .int .u32 v, .int .i64 o] 1 rfl (by decide)).no ((Fr.refl No _).alloc (.cells #[] 36)).drew)
          rw [show (wq.alloc (.cells #[] 36)).heap.size = wq.heap.size + 1 from by simp] at OB
          rw [show (wq.alloc (.cells #[.int .u32 d, .int .i64 b, .int .u32 v, .int .i64 o] 36)).heap.size = wq.heap.size + 1 from by simp] at OE2
          have SF : Hid (∀ w', Fr (Up wq.heap.size) wq w' → w'.cell? ⟨rb, 0, none⟩ = some (.slice none 0 0) ∧ w'.frozen? ⟨rb, 0, none⟩ = false ∧ w'.cell? ⟨w.heap.size, 0, none⟩ = some (.int .u32 d) ∧ w'.cell? ⟨w.heap.size, 1, none⟩ = some (.int .i64 b) ∧ w'.cell? ⟨w.heap.size, 2, none⟩ = some (.int .u32 v) ∧ w'.cell? ⟨w.heap.size, 3, none⟩ = some (.int .i64 o)) := Lib.hid (by
            intro w' f
            have h1 := f.heap QT.out.box (by simp only [Up]; omega)
            have h2 := f.heap QB.out (by simp only [Up]; omega)
            obtain ⟨c0, c1, c2, c3⟩ := cells4 h2
            exact ⟨cell_box h1, frozen_of_row w' rb 0 _ _ h1, c0, c1, c2, c3⟩)
          go_wp2_with fail
          refine wp_region_tail (S := (fun w' => w'.cell? ⟨rb, 0, none⟩ = some (.slice none 0 0) ∧ w'.frozen? ⟨rb, 0, none⟩ = false ∧ w'.cell? ⟨w.heap.size, 0, none⟩ = some (.int .u32 d) ∧ w'.cell? ⟨w.heap.size, 1, none⟩ = some (.int .i64 b) ∧ w'.cell? ⟨w.heap.size, 2, none⟩ = some (.int .u32 v) ∧ w'.cell? ⟨w.heap.size, 3, none⟩ = some (.int .i64 o))) rfl (by kernel_rfl) (by kernel_rfl) ?_ (fun hHeld => ?_)
          · ((try dsimp only); exact SF.out _ (Fr.refl _ wq).drew)
          · skip
            simp only [List.dropLast_cons_cons, List.dropLast_singleton, List.length_cons, List.length_nil, Nat.zero_add, Nat.reduceAdd, List.replicate]
            apply wpAnyH_take (i := 0)
            · rfl
            · kernel_rfl
            · kernel_rfl
            · kernel_rfl
            · exact fun _ _ _ h => h
            · (refine Or.inl ⟨by rfl, ?_⟩; intro w hSw; (try dsimp only at hSw); go_simp; try with_reducible rfl)
            · assumption
            simp only [Act.put, List.setIfInBounds_toArray, List.set_cons_zero, List.set_cons_succ]
            apply wpAnyH_take (i := 2)
            · rfl
            · kernel_rfl
            · kernel_rfl
            · kernel_rfl
            · exact fun _ _ _ h => h
            · (refine Or.inl ⟨by rfl, ?_⟩; intro w hSw; (try dsimp only at hSw); go_simp; try with_reducible rfl)
            · assumption
            simp only [Act.put, List.setIfInBounds_toArray, List.set_cons_zero, List.set_cons_succ]
            apply wpAnyH_take (i := 3)
            · rfl
            · kernel_rfl
            · kernel_rfl
            · kernel_rfl
            · exact fun _ _ _ h => h
            · (refine Or.inl ⟨by rfl, ?_⟩; intro w hSw; (try dsimp only at hSw); go_simp; try with_reducible rfl)
            · assumption
            simp only [Act.put, List.setIfInBounds_toArray, List.set_cons_zero, List.set_cons_succ]
            apply wpAnyH_take (i := 4)
            · rfl
            · kernel_rfl
            · kernel_rfl
            · kernel_rfl
            · exact fun _ _ _ h => h
            · (refine Or.inl ⟨by rfl, ?_⟩; intro w hSw; (try dsimp only at hSw); go_simp; try with_reducible rfl)
            · assumption
            simp only [Act.put, List.setIfInBounds_toArray, List.set_cons_zero, List.set_cons_succ]
            apply wpAnyH_take (i := 5)
            · rfl
            · kernel_rfl
            · kernel_rfl
            · kernel_rfl
            · exact fun _ _ _ h => h
            · (refine Or.inl ⟨by rfl, ?_⟩; intro w hSw; (try dsimp only at hSw); go_simp; try with_reducible rfl)
            · assumption
            simp only [Act.put, List.setIfInBounds_toArray, List.set_cons_zero, List.set_cons_succ]
            apply wpAnyH_take (i := 6)
            · rfl
            · kernel_rfl
            · kernel_rfl
            · kernel_rfl
            · exact fun _ _ _ h => h
            · (refine Or.inl ⟨by rfl, ?_⟩; intro w hSw; (try dsimp only at hSw); go_simp; try with_reducible rfl)
            · assumption
            simp only [Act.put, List.setIfInBounds_toArray, List.set_cons_zero, List.set_cons_succ]
            apply wpAnyH_take (i := 7)
            · rfl
            · kernel_rfl
            · kernel_rfl
            · kernel_rfl
            · exact fun _ _ _ h => h
            · (refine Or.inl ⟨by rfl, ?_⟩; intro w hSw; (try dsimp only at hSw); go_simp; try with_reducible rfl)
            · assumption
            simp only [Act.put, List.setIfInBounds_toArray, List.set_cons_zero, List.set_cons_succ]
            apply wpAnyH_take (i := 9)
            · rfl
            · kernel_rfl
            · kernel_rfl
            · kernel_rfl
            · exact fun _ _ _ h => h
            · (refine Or.inl ⟨by rfl, ?_⟩; intro w hSw; (try dsimp only at hSw); go_simp; try with_reducible rfl)
            · assumption
            simp only [Act.put, List.setIfInBounds_toArray, List.set_cons_zero, List.set_cons_succ]
            apply wpAnyH_take (i := 12)
            · rfl
            · kernel_rfl
            · kernel_rfl
            · kernel_rfl
            · exact fun _ _ _ h => h
            · (refine Or.inl ⟨by rfl, ?_⟩; intro w hSw; (try dsimp only at hSw); go_simp; try with_reducible rfl)
            · assumption
            simp only [Act.put, List.setIfInBounds_toArray, List.set_cons_zero, List.set_cons_succ]
            apply wpAnyH_take (i := 13)
            · rfl
            · kernel_rfl
            · kernel_rfl
            · kernel_rfl
            · exact fun _ _ _ h => h
            · (refine Or.inl ⟨by rfl, ?_⟩; intro w hSw; (try dsimp only at hSw); go_simp; try with_reducible rfl)
            · assumption
            simp only [Act.put, List.setIfInBounds_toArray, List.set_cons_zero, List.set_cons_succ]
            apply wpAnyH_take (i := 14)
            · rfl
            · kernel_rfl
            · kernel_rfl
            · kernel_rfl
            · exact fun _ _ _ h => h
            · (refine Or.inl ⟨by rfl, ?_⟩; intro w hSw; (try dsimp only at hSw); go_simp; try with_reducible rfl)
            · assumption
            simp only [Act.put, List.setIfInBounds_toArray, List.set_cons_zero, List.set_cons_succ]
            apply wpAnyH_take (i := 15)
            · rfl
            · kernel_rfl
            · kernel_rfl
            · kernel_rfl
            · exact fun _ _ _ h => h
            · (refine Or.inl ⟨by rfl, ?_⟩; intro w hSw; (try dsimp only at hSw); go_simp; try with_reducible rfl)
            · assumption
            simp only [Act.put, List.setIfInBounds_toArray, List.set_cons_zero, List.set_cons_succ]
            apply wpAnyH_take (i := 16)
            · rfl
            · kernel_rfl
            · kernel_rfl
            · kernel_rfl
            · exact fun _ _ _ h => h
            · (refine Or.inl ⟨by rfl, ?_⟩; intro w hSw; (try dsimp only at hSw); go_simp; try with_reducible rfl)
            · assumption
            simp only [Act.put, List.setIfInBounds_toArray, List.set_cons_zero, List.set_cons_succ]
            apply wpAnyH_take (i := 17)
            · rfl
            · kernel_rfl
            · kernel_rfl
            · kernel_rfl
            · exact fun _ _ _ h => h
            · (refine Or.inl ⟨by rfl, ?_⟩; intro w hSw; (try dsimp only at hSw); go_simp; try with_reducible rfl)
            · assumption
            simp only [Act.put, List.setIfInBounds_toArray, List.set_cons_zero, List.set_cons_succ]
            refine wpAnyH_ready (rs := [1, 10]) (by kernel_rfl) (by simp) (AllReadyH.cons rfl (fun K hK => ?_) (AllReadyH.cons rfl (fun K hK => ?_) AllReadyH.nil))
            · skip
              go_simp
              refine hK.out _ _ ?_ (fun hHeld => ?_)
              · ((try dsimp only); first | exact SF.out _ ((Fr.refl _ wq).alloc _).drew | exact SF.out _ (((Fr.refl _ wq).alloc _).alloc _).drew | exact SF.out _ G3.out | exact SF.out _ G2.out | exact SF.out _ (G1.out.alloc _) | exact SF.out _ G1.out)
              · skip
                clear hK K
                (try simp only [Act.put, List.setIfInBounds_toArray, List.set_cons_zero, List.set_cons_succ])
                refine wpAnyH_ready (rs := [8, 10]) (by kernel_rfl) (by simp) (AllReadyH.cons rfl (fun K hK => ?_) (AllReadyH.cons rfl (fun K hK => ?_) AllReadyH.nil))
                · skip
                  refine step_append_r8 (.tmp 95) (.tmp 101) (by rfl) (by rfl) (by rfl) (by rfl) (xs := []) (ys := rs.take 0)
                    (by first | exact OE.out | exact OE1.out | exact OE2.out)
                    (HS1.out _ (by first | exact ((Fr.refl _ wq).alloc _).drew | exact (((Fr.refl _ wq).alloc _).alloc _).drew))
                    (by rw [List.length_take, ← QT.out.len]; omega) (by omega) (by omega) ?_
                  intro ao1 cap1 w5 n1 hn1 o1 f1 d1
                  have g1 : Fr (Up wq.heap.size) wq w5 := by
                    first
                      | exact (((Fr.refl _ wq).alloc _).drew).then f1 (by rintro i hi ⟨x, hx, rfl⟩; cases hx; simp only [Up]; omega)
                      | exact ((((Fr.refl _ wq).alloc _).alloc _).drew).then f1 (by rintro i hi ⟨x, hx, rfl⟩; cases hx; simp only [Up]; omega)
                  have e1 : ∀ a, ao1 = some a → wq.heap.size ≤ a.block := by
                    intro a ha
                    rcases d1 with h | h
                    · rw [h] at ha; cases ha; simp only; omega
                    · have h2 := h a ha; simp at h2; omega
                  have G1 := Lib.hid g1
                  have O1 := Lib.hid o1
                  have E1 := Lib.hid e1
                  have D1 := Lib.hid f1
                  clear g1 o1 e1 d1 f1
                  refine hK.out _ _ ?_ (fun hHeld => ?_)
                  · ((try dsimp only); first | exact SF.out _ ((Fr.refl _ wq).alloc _).drew | exact SF.out _ (((Fr.refl _ wq).alloc _).alloc _).drew | exact SF.out _ G3.out | exact SF.out _ G2.out | exact SF.out _ (G1.out.alloc _) | exact SF.out _ G1.out)
                  · skip
                    clear hK K
                    (try simp only [Act.put, List.setIfInBounds_toArray, List.set_cons_zero, List.set_cons_succ])
                    refine wpAnyH_ready (rs := [10]) (by kernel_rfl) (by simp) (AllReadyH.cons rfl (fun K hK => ?_) AllReadyH.nil)
                    · skip
                      go_simp
                      refine hK.out _ _ ?_ (fun hHeld => ?_)
                      · ((try dsimp only); first | exact SF.out _ ((Fr.refl _ wq).alloc _).drew | exact SF.out _ (((Fr.refl _ wq).alloc _).alloc _).drew | exact SF.out _ G3.out | exact SF.out _ G2.out | exact SF.out _ (G1.out.alloc _) | exact SF.out _ G1.out)
                      · skip
                        clear hK K
                        (try simp only [Act.put, List.setIfInBounds_toArray, List.set_cons_zero, List.set_cons_succ])
                        refine wpAnyH_ready (rs := [11]) (by kernel_rfl) (by simp) (AllReadyH.cons rfl (fun K hK => ?_) AllReadyH.nil)
                        · skip
                          refine step_append_r8 (.tmp 102) (.tmp 104) (by rfl) (by rfl) (by rfl) (by rfl) (xs := [] ++ rs.take 0) (ys := [⟨d, b, v, o⟩])
                            (by first | exact O1.out | exact O1.out.no ((Fr.refl No _).alloc _))
                            (by first | exact (Own.made (w := w5) (e := 36) (size := 4) #[.int .u32 d, .int .i64 b, .int .u32 v, .int .i64 o] 1 rfl (by decide)).sl | exact OB.out.sl.fr D1.out (by intro a ha ⟨x, hx, hxb⟩; cases ha; cases hx; simp only at hxb; omega) | exact OC.out.sl.fr D1.out (by intro a ha ⟨x, hx, hxb⟩; cases ha; cases hx; simp at hxb))
                            (by rfl) (by have := hn1.out; omega) (by omega) ?_
                          intro ao2 cap2 w6 n2 hn2 o2 f2 d2
                          have g2 : Fr (Up wq.heap.size) wq w6 := by
                            first
                              | exact G1.out.then f2 (by rintro i hi ⟨x, hx, rfl⟩; exact E1.out x hx)
                              | exact (G1.out.alloc _).then f2 (by rintro i hi ⟨x, hx, rfl⟩; exact E1.out x hx)
                          have e2 : ∀ a, ao2 = some a → wq.heap.size ≤ a.block := by
                            intro a ha
                            have hg := G1.out.size
                            rcases d2 with h | h
                            · exact E1.out a (by rw [← h]; exact ha)
                            · have h2 := h a ha; first | omega | (simp at h2; omega)
                          have G2 := Lib.hid g2
                          have O2 := Lib.hid o2
                          have E2 := Lib.hid e2
                          clear g2 o2 e2 d2 f2
                          refine hK.out _ _ ?_ (fun hHeld => ?_)
                          · ((try dsimp only); first | exact SF.out _ ((Fr.refl _ wq).alloc _).drew | exact SF.out _ (((Fr.refl _ wq).alloc _).alloc _).drew | exact SF.out _ G3.out | exact SF.out _ G2.out | exact SF.out _ (G1.out.alloc _) | exact SF.out _ G1.out)
                          · skip
                            clear hK K
                            (try simp only [Act.put, List.setIfInBounds_toArray, List.set_cons_zero, List.set_cons_succ])
                            refine wpAnyH_ready (rs := [18]) (by kernel_rfl) (by simp) (AllReadyH.cons rfl (fun K hK => ?_) AllReadyH.nil)
                            · skip
                              refine step_append_r8 (.tmp 105) (.tmp 111) (by rfl) (by rfl) (by rfl) (by rfl) (xs := [] ++ rs.take 0 ++ [⟨d, b, v, o⟩]) (ys := rs.drop 0)
                                O2.out (HS2.out _ G2.out) (by rw [List.length_drop, ← QT.out.len]) (by have := hn1.out; have := hn2.out; omega) (by omega) ?_
                              intro ao3 cap3 w7 n3 hn3 o3 f3 d3
                              have g3 : Fr (Up wq.heap.size) wq w7 := G2.out.then f3 (by rintro i hi ⟨x, hx, rfl⟩; exact E2.out x hx)
                              have e3 : ∀ a, ao3 = some a → wq.heap.size ≤ a.block := by
                                intro a ha
                                have hg := G2.out.size
                                rcases d3 with h | h
                                · exact E2.out a (by rw [← h]; exact ha)
                                · have h2 := h a ha; omega
                              have G3 := Lib.hid g3
                              have O3 := Lib.hid o3
                              have E3 := Lib.hid e3
                              have hn4 : Hid (n3 = (rs.take 0 ++ ⟨d, b, v, o⟩ :: rs.drop 0).length) := Lib.hid (by have h1 := hn1.out; have h2 := hn2.out; have h3 := hn3.out; have h4 := QT.out.len; simp; omega)
                              clear g3 o3 e3 d3 f3
                              refine hK.out _ _ ?_ (fun hHeld => ?_)
                              · ((try dsimp only); first | exact SF.out _ ((Fr.refl _ wq).alloc _).drew | exact SF.out _ (((Fr.refl _ wq).alloc _).alloc _).drew | exact SF.out _ G3.out | exact SF.out _ G2.out | exact SF.out _ (G1.out.alloc _) | exact SF.out _ G1.out)
                              · skip
                                clear hK K
                                (try simp only [Act.put, List.setIfInBounds_toArray, List.set_cons_zero, List.set_cons_succ])
                                apply wpAnyH_take (i := 19)
                                · rfl
                                · kernel_rfl
                                · kernel_rfl
                                · kernel_rfl
                                · exact fun _ _ _ h => h
                                · (refine Or.inl ⟨by rfl, ?_⟩; intro w hSw; (try dsimp only at hSw); go_simp; try with_reducible rfl)
                                · assumption
                                simp only [Act.put, List.setIfInBounds_toArray, List.set_cons_zero, List.set_cons_succ]
                                apply wpAnyH_take (i := 20)
                                · rfl
                                · kernel_rfl
                                · kernel_rfl
                                · kernel_rfl
                                · exact fun _ _ _ h => h
                                · (refine Or.inl ⟨by rfl, ?_⟩; intro w hSw; (try dsimp only at hSw); go_simp; try with_reducible rfl)
                                · assumption
                                simp only [Act.put, List.setIfInBounds_toArray, List.set_cons_zero, List.set_cons_succ]
                                refine wpAnyH_done (by kernel_rfl) ?_ _
                                change Oper.wp _ _ _ _ _ _
                                go_simp
                                go_wp2_with fail
                                all_goals go_ret
                                all_goals exact add_end QT.out QF.out FV.out hsz G3.out O3.out E3.out hn4.out HA.out
                · skip
                  go_simp
                  refine hK.out _ _ ?_ (fun hHeld => ?_)
                  · ((try dsimp only); first | exact SF.out _ ((Fr.refl _ wq).alloc _).drew | exact SF.out _ (((Fr.refl _ wq).alloc _).alloc _).drew | exact SF.out _ G3.out | exact SF.out _ G2.out | exact SF.out _ (G1.out.alloc _) | exact SF.out _ G1.out)
                  · skip
                    clear hK K
                    (try simp only [Act.put, List.setIfInBounds_toArray, List.set_cons_zero, List.set_cons_succ])
                    refine wpAnyH_ready (rs := [8]) (by kernel_rfl) (by simp) (AllReadyH.cons rfl (fun K hK => ?_) AllReadyH.nil)
                    · skip
                      refine step_append_r8 (.tmp 95) (.tmp 101) (by rfl) (by rfl) (by rfl) (by rfl) (xs := []) (ys := rs.take 0)
                        (by first | exact OE.out | exact OE1.out | exact OE2.out)
                        (HS1.out _ (by first | exact ((Fr.refl _ wq).alloc _).drew | exact (((Fr.refl _ wq).alloc _).alloc _).drew))
                        (by rw [List.length_take, ← QT.out.len]; omega) (by omega) (by omega) ?_
                      intro ao1 cap1 w5 n1 hn1 o1 f1 d1
                      have g1 : Fr (Up wq.heap.size) wq w5 := by
                        first
                          | exact (((Fr.refl _ wq).alloc _).drew).then f1 (by rintro i hi ⟨x, hx, rfl⟩; cases hx; simp only [Up]; omega)
                          | exact ((((Fr.refl _ wq).alloc _).alloc _).drew).then f1 (by rintro i hi ⟨x, hx, rfl⟩; cases hx; simp only [Up]; omega)
                      have e1 : ∀ a, ao1 = some a → wq.heap.size ≤ a.block := by
                        intro a ha
                        rcases d1 with h | h
                        · rw [h] at ha; cases ha; simp only; omega
                        · have h2 := h a ha; simp at h2; omega
                      have G1 := Lib.hid g1
                      have O1 := Lib.hid o1
                      have E1 := Lib.hid e1
                      have D1 := Lib.hid f1
                      clear g1 o1 e1 d1 f1
                      refine hK.out _ _ ?_ (fun hHeld => ?_)
                      · ((try dsimp only); first | exact SF.out _ ((Fr.refl _ wq).alloc _).drew | exact SF.out _ (((Fr.refl _ wq).alloc _).alloc _).drew | exact SF.out _ G3.out | exact SF.out _ G2.out | exact SF.out _ (G1.out.alloc _) | exact SF.out _ G1.out)
                      · skip
                        clear hK K
                        (try simp only [Act.put, List.setIfInBounds_toArray, List.set_cons_zero, List.set_cons_succ])
                        refine wpAnyH_ready (rs := [11]) (by kernel_rfl) (by simp) (AllReadyH.cons rfl (fun K hK => ?_) AllReadyH.nil)
                        · skip
                          refine step_append_r8 (.tmp 102) (.tmp 104) (by rfl) (by rfl) (by rfl) (by rfl) (xs := [] ++ rs.take 0) (ys := [⟨d, b, v, o⟩])
                            (by first | exact O1.out | exact O1.out.no ((Fr.refl No _).alloc _))
                            (by first | exact (Own.made (w := w5) (e := 36) (size := 4) #[.int .u32 d, .int .i64 b, .int .u32 v, .int .i64 o] 1 rfl (by decide)).sl | exact OB.out.sl.fr D1.out (by intro a ha ⟨x, hx, hxb⟩; cases ha; cases hx; simp only at hxb; omega) | exact OC.out.sl.fr D1.out (by intro a ha ⟨x, hx, hxb⟩; cases ha; cases hx; simp at hxb))
                            (by rfl) (by have := hn1.out; omega) (by omega) ?_
                          intro ao2 cap2 w6 n2 hn2 o2 f2 d2
                          have g2 : Fr (Up wq.heap.size) wq w6 := by
                            first
                              | exact G1.out.then f2 (by rintro i hi ⟨x, hx, rfl⟩; exact E1.out x hx)
                              | exact (G1.out.alloc _).then f2 (by rintro i hi ⟨x, hx, rfl⟩; exact E1.out x hx)
                          have e2 : ∀ a, ao2 = some a → wq.heap.size ≤ a.block := by
                            intro a ha
                            have hg := G1.out.size
                            rcases d2 with h | h
                            · exact E1.out a (by rw [← h]; exact ha)
                            · have h2 := h a ha; first | omega | (simp at h2; omega)
                          have G2 := Lib.hid g2
                          have O2 := Lib.hid o2
                          have E2 := Lib.hid e2
                          clear g2 o2 e2 d2 f2
                          refine hK.out _ _ ?_ (fun hHeld => ?_)
                          · ((try dsimp only); first | exact SF.out _ ((Fr.refl _ wq).alloc _).drew | exact SF.out _ (((Fr.refl _ wq).alloc _).alloc _).drew | exact SF.out _ G3.out | exact SF.out _ G2.out | exact SF.out _ (G1.out.alloc _) | exact SF.out _ G1.out)
                          · skip
                            clear hK K
                            (try simp only [Act.put, List.setIfInBounds_toArray, List.set_cons_zero, List.set_cons_succ])
                            refine wpAnyH_ready (rs := [18]) (by kernel_rfl) (by simp) (AllReadyH.cons rfl (fun K hK => ?_) AllReadyH.nil)
                            · skip
                              refine step_append_r8 (.tmp 105) (.tmp 111) (by rfl) (by rfl) (by rfl) (by rfl) (xs := [] ++ rs.take 0 ++ [⟨d, b, v, o⟩]) (ys := rs.drop 0)
                                O2.out (HS2.out _ G2.out) (by rw [List.length_drop, ← QT.out.len]) (by have := hn1.out; have := hn2.out; omega) (by omega) ?_
                              intro ao3 cap3 w7 n3 hn3 o3 f3 d3
                              have g3 : Fr (Up wq.heap.size) wq w7 := G2.out.then f3 (by rintro i hi ⟨x, hx, rfl⟩; exact E2.out x hx)
                              have e3 : ∀ a, ao3 = some a → wq.heap.size ≤ a.block := by
                                intro a ha
                                have hg := G2.out.size
                                rcases d3 with h | h
                                · exact E2.out a (by rw [← h]; exact ha)
                                · have h2 := h a ha; omega
                              have G3 := Lib.hid g3
                              have O3 := Lib.hid o3
                              have E3 := Lib.hid e3
                              have hn4 : Hid (n3 = (rs.take 0 ++ ⟨d, b, v, o⟩ :: rs.drop 0).length) := Lib.hid (by have h1 := hn1.out; have h2 := hn2.out; have h3 := hn3.out; have h4 := QT.out.len; simp; omega)
                              clear g3 o3 e3 d3 f3
                              refine hK.out _ _ ?_ (fun hHeld => ?_)
                              · ((try dsimp only); first | exact SF.out _ ((Fr.refl _ wq).alloc _).drew | exact SF.out _ (((Fr.refl _ wq).alloc _).alloc _).drew | exact SF.out _ G3.out | exact SF.out _ G2.out | exact SF.out _ (G1.out.alloc _) | exact SF.out _ G1.out)
                              · skip
                                clear hK K
                                (try simp only [Act.put, List.setIfInBounds_toArray, List.set_cons_zero, List.set_cons_succ])
                                apply wpAnyH_take (i := 19)
                                · rfl
                                · kernel_rfl
                                · kernel_rfl
                                · kernel_rfl
                                · exact fun _ _ _ h => h
                                · (refine Or.inl ⟨by rfl, ?_⟩; intro w hSw; (try dsimp only at hSw); go_simp; try with_reducible rfl)
                                · assumption
                                simp only [Act.put, List.setIfInBounds_toArray, List.set_cons_zero, List.set_cons_succ]
                                apply wpAnyH_take (i := 20)
                                · rfl
                                · kernel_rfl
                                · kernel_rfl
                                · kernel_rfl
                                · exact fun _ _ _ h => h
                                · (refine Or.inl ⟨by rfl, ?_⟩; intro w hSw; (try dsimp only at hSw); go_simp; try with_reducible rfl)
                                · assumption
                                simp only [Act.put, List.setIfInBounds_toArray, List.set_cons_zero, List.set_cons_succ]
                                refine wpAnyH_done (by kernel_rfl) ?_ _
                                change Oper.wp _ _ _ _ _ _
                                go_simp
                                go_wp2_with fail
                                all_goals go_ret
                                all_goals exact add_end QT.out QF.out FV.out hsz G3.out O3.out E3.out hn4.out HA.out
            · skip
              go_simp
              refine hK.out _ _ ?_ (fun hHeld => ?_)
              · ((try dsimp only); first | exact SF.out _ ((Fr.refl _ wq).alloc _).drew | exact SF.out _ (((Fr.refl _ wq).alloc _).alloc _).drew | exact SF.out _ G3.out | exact SF.out _ G2.out | exact SF.out _ (G1.out.alloc _) | exact SF.out _ G1.out)
              · skip
                clear hK K
                (try simp only [Act.put, List.setIfInBounds_toArray, List.set_cons_zero, List.set_cons_succ])
                refine wpAnyH_ready (rs := [1]) (by kernel_rfl) (by simp) (AllReadyH.cons rfl (fun K hK => ?_) AllReadyH.nil)
                · skip
                  go_simp
                  refine hK.out _ _ ?_ (fun hHeld => ?_)
                  · ((try dsimp only); first | exact SF.out _ ((Fr.refl _ wq).alloc _).drew | exact SF.out _ (((Fr.refl _ wq).alloc _).alloc _).drew | exact SF.out _ G3.out | exact SF.out _ G2.out | exact SF.out _ (G1.out.alloc _) | exact SF.out _ G1.out)
                  · skip
                    clear hK K
                    (try simp only [Act.put, List.setIfInBounds_toArray, List.set_cons_zero, List.set_cons_succ])
                    refine wpAnyH_ready (rs := [8]) (by kernel_rfl) (by simp) (AllReadyH.cons rfl (fun K hK => ?_) AllReadyH.nil)
                    · skip
                      refine step_append_r8 (.tmp 95) (.tmp 101) (by rfl) (by rfl) (by rfl) (by rfl) (xs := []) (ys := rs.take 0)
                        (by first | exact OE.out | exact OE1.out | exact OE2.out)
                        (HS1.out _ (by first | exact ((Fr.refl _ wq).alloc _).drew | exact (((Fr.refl _ wq).alloc _).alloc _).drew))
                        (by rw [List.length_take, ← QT.out.len]; omega) (by omega) (by omega) ?_
                      intro ao1 cap1 w5 n1 hn1 o1 f1 d1
                      have g1 : Fr (Up wq.heap.size) wq w5 := by
                        first
                          | exact (((Fr.refl _ wq).alloc _).drew).then f1 (by rintro i hi ⟨x, hx, rfl⟩; cases hx; simp only [Up]; omega)
                          | exact ((((Fr.refl _ wq).alloc _).alloc _).drew).then f1 (by rintro i hi ⟨x, hx, rfl⟩; cases hx; simp only [Up]; omega)
                      have e1 : ∀ a, ao1 = some a → wq.heap.size ≤ a.block := by
                        intro a ha
                        rcases d1 with h | h
                        · rw [h] at ha; cases ha; simp only; omega
                        · have h2 := h a ha; simp at h2; omega
                      have G1 := Lib.hid g1
                      have O1 := Lib.hid o1
                      have E1 := Lib.hid e1
                      have D1 := Lib.hid f1
                      clear g1 o1 e1 d1 f1
                      refine hK.out _ _ ?_ (fun hHeld => ?_)
                      · ((try dsimp only); first | exact SF.out _ ((Fr.refl _ wq).alloc _).drew | exact SF.out _ (((Fr.refl _ wq).alloc _).alloc _).drew | exact SF.out _ G3.out | exact SF.out _ G2.out | exact SF.out _ (G1.out.alloc _) | exact SF.out _ G1.out)
                      · skip
                        clear hK K
                        (try simp only [Act.put, List.setIfInBounds_toArray, List.set_cons_zero, List.set_cons_succ])
                        refine wpAnyH_ready (rs := [11]) (by kernel_rfl) (by simp) (AllReadyH.cons rfl (fun K hK => ?_) AllReadyH.nil)
                        · skip
                          refine step_append_r8 (.tmp 102) (.tmp 104) (by rfl) (by rfl) (by rfl) (by rfl) (xs := [] ++ rs.take 0) (ys := [⟨d, b, v, o⟩])
                            (by first | exact O1.out | exact O1.out.no ((Fr.refl No _).alloc _))
                            (by first | exact (Own.made (w := w5) (e := 36) (size := 4) #[.int .u32 d, .int .i64 b, .int .u32 v, .int .i64 o] 1 rfl (by decide)).sl | exact OB.out.sl.fr D1.out (by intro a ha ⟨x, hx, hxb⟩; cases ha; cases hx; simp only at hxb; omega) | exact OC.out.sl.fr D1.out (by intro a ha ⟨x, hx, hxb⟩; cases ha; cases hx; simp at hxb))
                            (by rfl) (by have := hn1.out; omega) (by omega) ?_
                          intro ao2 cap2 w6 n2 hn2 o2 f2 d2
                          have g2 : Fr (Up wq.heap.size) wq w6 := by
                            first
                              | exact G1.out.then f2 (by rintro i hi ⟨x, hx, rfl⟩; exact E1.out x hx)
                              | exact (G1.out.alloc _).then f2 (by rintro i hi ⟨x, hx, rfl⟩; exact E1.out x hx)
                          have e2 : ∀ a, ao2 = some a → wq.heap.size ≤ a.block := by
                            intro a ha
                            have hg := G1.out.size
                            rcases d2 with h | h
                            · exact E1.out a (by rw [← h]; exact ha)
                            · have h2 := h a ha; first | omega | (simp at h2; omega)
                          have G2 := Lib.hid g2
                          have O2 := Lib.hid o2
                          have E2 := Lib.hid e2
                          clear g2 o2 e2 d2 f2
                          refine hK.out _ _ ?_ (fun hHeld => ?_)
                          · ((try dsimp only); first | exact SF.out _ ((Fr.refl _ wq).alloc _).drew | exact SF.out _ (((Fr.refl _ wq).alloc _).alloc _).drew | exact SF.out _ G3.out | exact SF.out _ G2.out | exact SF.out _ (G1.out.alloc _) | exact SF.out _ G1.out)
                          · skip
                            clear hK K
                            (try simp only [Act.put, List.setIfInBounds_toArray, List.set_cons_zero, List.set_cons_succ])
                            refine wpAnyH_ready (rs := [18]) (by kernel_rfl) (by simp) (AllReadyH.cons rfl (fun K hK => ?_) AllReadyH.nil)
                            · skip
                              refine step_append_r8 (.tmp 105) (.tmp 111) (by rfl) (by rfl) (by rfl) (by rfl) (xs := [] ++ rs.take 0 ++ [⟨d, b, v, o⟩]) (ys := rs.drop 0)
                                O2.out (HS2.out _ G2.out) (by rw [List.length_drop, ← QT.out.len]) (by have := hn1.out; have := hn2.out; omega) (by omega) ?_
                              intro ao3 cap3 w7 n3 hn3 o3 f3 d3
                              have g3 : Fr (Up wq.heap.size) wq w7 := G2.out.then f3 (by rintro i hi ⟨x, hx, rfl⟩; exact E2.out x hx)
                              have e3 : ∀ a, ao3 = some a → wq.heap.size ≤ a.block := by
                                intro a ha
                                have hg := G2.out.size
                                rcases d3 with h | h
                                · exact E2.out a (by rw [← h]; exact ha)
                                · have h2 := h a ha; omega
                              have G3 := Lib.hid g3
                              have O3 := Lib.hid o3
                              have E3 := Lib.hid e3
                              have hn4 : Hid (n3 = (rs.take 0 ++ ⟨d, b, v, o⟩ :: rs.drop 0).length) := Lib.hid (by have h1 := hn1.out; have h2 := hn2.out; have h3 := hn3.out; have h4 := QT.out.len; simp; omega)
                              clear g3 o3 e3 d3 f3
                              refine hK.out _ _ ?_ (fun hHeld => ?_)
                              · ((try dsimp only); first | exact SF.out _ ((Fr.refl _ wq).alloc _).drew | exact SF.out _ (((Fr.refl _ wq).alloc _).alloc _).drew | exact SF.out _ G3.out | exact SF.out _ G2.out | exact SF.out _ (G1.out.alloc _) | exact SF.out _ G1.out)
                              · skip
                                clear hK K
                                (try simp only [Act.put, List.setIfInBounds_toArray, List.set_cons_zero, List.set_cons_succ])
                                apply wpAnyH_take (i := 19)
                                · rfl
                                · kernel_rfl
                                · kernel_rfl
                                · kernel_rfl
                                · exact fun _ _ _ h => h
                                · (refine Or.inl ⟨by rfl, ?_⟩; intro w hSw; (try dsimp only at hSw); go_simp; try with_reducible rfl)
                                · assumption
                                simp only [Act.put, List.setIfInBounds_toArray, List.set_cons_zero, List.set_cons_succ]
                                apply wpAnyH_take (i := 20)
                                · rfl
                                · kernel_rfl
                                · kernel_rfl
                                · kernel_rfl
                                · exact fun _ _ _ h => h
                                · (refine Or.inl ⟨by rfl, ?_⟩; intro w hSw; (try dsimp only at hSw); go_simp; try with_reducible rfl)
                                · assumption
                                simp only [Act.put, List.setIfInBounds_toArray, List.set_cons_zero, List.set_cons_succ]
                                refine wpAnyH_done (by kernel_rfl) ?_ _
                                change Oper.wp _ _ _ _ _ _
                                go_simp
                                go_wp2_with fail
                                all_goals go_ret
                                all_goals exact add_end QT.out QF.out FV.out hsz G3.out O3.out E3.out hn4.out HA.out
        | some g =>
          obtain ⟨hg0, -⟩ := QT.out.own.row g rfl
          have hgl := QT.out.own.lt g rfl
          obtain ⟨gb, goff, gsp⟩ := g
          cases hg0
          have HS1 : Hid (∀ W, Fr (Up wq.heap.size) wq W → Sl W (some ⟨gb, 0, none⟩) k cap ((rs.take k).flatMap encR)) := Lib.hid (fun W f => (QT.out.own.sl.upto hk).fr f (fun a ha => by cases ha; simp only [Up]; simp only at hgl; omega))
          have HS2 : Hid (∀ W, Fr (Up wq.heap.size) wq W → Sl W (if cap = k then some ⟨gb, 0, none⟩ else some ⟨gb, k * 4, none⟩) (n - k) (cap - k) ((rs.drop k).flatMap encR)) := Lib.hid (fun W f => (Sl.from QT.out.len QT.out.own.sl hk).fr f (fun a ha => by split at ha <;> cases ha <;> simp only [Up] <;> simp only at hgl <;> omega))
          have OE := Lib.hid ((Own.made (w := wq) (e := 36) (size := 4) #[] 0 rfl (by decide)).no (Fr.refl No _).drew)
          have OE1 := Lib.hid ((Own.made (w := wq) (e := 36) (size := 4) #[] 0 rfl (by decide)).no ((Fr.refl No _).alloc (.cells #[.int .u32 d, .int .i64 b, .int .u32 v, .int .i64 o] 36)).drew)
          have OE2 := Lib.hid ((Own.made (w := wq.alloc (.cells #[.int .u32 d, .int .i64 b, .int .u32 v, .int .i64 o] 36)) (e := 36) (size := 4) #[] 0 rfl (by decide)).no (Fr.refl No _).drew)
          have OB := Lib.hid ((((Own.made (w := wq.alloc (.cells #[] 36)) (e := 36) (size := 4) #[.int .u32 d, .int .i64 b, .int .u32 v, .int .i64 o] 1 rfl (by decide))).no (Fr.refl No _).drew))
          have OC := Lib.hid ((Own.made (w := wq) (e := 36) (size := 4) #[.int .u32 d, .int .i64 b, .int .u32 v, .int .i64 o] 1 rfl (by decide)).no ((Fr.refl No _).alloc (.cells #[] 36)).drew)
          rw [show (wq.alloc (.cells #[] 36)).heap.size = wq.heap.size + 1 from by simp] at OB
          rw [show (wq.alloc (.cells #[.int .u32 d, .int .i64 b, .int .u32 v, .int .i64 o] 36)).heap.size = wq.heap.size + 1 from by simp] at OE2
          have SF : Hid (∀ w', Fr (Up wq.heap.size) wq w' → w'.cell? ⟨rb, 0, none⟩ = some (.slice (some ⟨gb, 0, none⟩) n cap) ∧ w'.frozen? ⟨rb, 0, none⟩ = false ∧ w'.cell? ⟨w.heap.size, 0, none⟩ = some (.int .u32 d) ∧ w'.cell? ⟨w.heap.size, 1, none⟩ = some (.int .i64 b) ∧ w'.cell? ⟨w.heap.size, 2, none⟩ = some (.int .u32 v) ∧ w'.cell? ⟨w.heap.size, 3, none⟩ = some (.int .i64 o)) := Lib.hid (by
            intro w' f
            have h1 := f.heap QT.out.box (by simp only [Up]; omega)
            have h2 := f.heap QB.out (by simp only [Up]; omega)
            obtain ⟨c0, c1, c2, c3⟩ := cells4 h2
            exact ⟨cell_box h1, frozen_of_row w' rb 0 _ _ h1, c0, c1, c2, c3⟩)
          go_wp2_with fail
          refine wp_region_tail (S := (fun w' => w'.cell? ⟨rb, 0, none⟩ = some (.slice (some ⟨gb, 0, none⟩) n cap) ∧ w'.frozen? ⟨rb, 0, none⟩ = false ∧ w'.cell? ⟨w.heap.size, 0, none⟩ = some (.int .u32 d) ∧ w'.cell? ⟨w.heap.size, 1, none⟩ = some (.int .i64 b) ∧ w'.cell? ⟨w.heap.size, 2, none⟩ = some (.int .u32 v) ∧ w'.cell? ⟨w.heap.size, 3, none⟩ = some (.int .i64 o))) rfl (by kernel_rfl) (by kernel_rfl) ?_ (fun hHeld => ?_)
          · ((try dsimp only); exact SF.out _ (Fr.refl _ wq).drew)
          · skip
            simp only [List.dropLast_cons_cons, List.dropLast_singleton, List.length_cons, List.length_nil, Nat.zero_add, Nat.reduceAdd, List.replicate]
            apply wpAnyH_take (i := 0)
            · rfl
            · kernel_rfl
            · kernel_rfl
            · kernel_rfl
            · exact fun _ _ _ h => h
            · (refine Or.inl ⟨by rfl, ?_⟩; intro w hSw; (try dsimp only at hSw); go_simp; try with_reducible rfl)
            · assumption
            simp only [Act.put, List.setIfInBounds_toArray, List.set_cons_zero, List.set_cons_succ]
            apply wpAnyH_take (i := 2)
            · rfl
            · kernel_rfl
            · kernel_rfl
            · kernel_rfl
            · exact fun _ _ _ h => h
            · (refine Or.inl ⟨by rfl, ?_⟩; intro w hSw; (try dsimp only at hSw); go_simp; try with_reducible rfl)
            · assumption
            simp only [Act.put, List.setIfInBounds_toArray, List.set_cons_zero, List.set_cons_succ]
            apply wpAnyH_take (i := 3)
            · rfl
            · kernel_rfl
            · kernel_rfl
            · kernel_rfl
            · exact fun _ _ _ h => h
            · (refine Or.inl ⟨by rfl, ?_⟩; intro w hSw; (try dsimp only at hSw); go_simp; try with_reducible rfl)
            · assumption
            simp only [Act.put, List.setIfInBounds_toArray, List.set_cons_zero, List.set_cons_succ]
            apply wpAnyH_take (i := 4)
            · rfl
            · kernel_rfl
            · kernel_rfl
            · kernel_rfl
            · exact fun _ _ _ h => h
            · (refine Or.inl ⟨by rfl, ?_⟩; intro w hSw; (try dsimp only at hSw); go_simp; try with_reducible rfl)
            · assumption
            simp only [Act.put, List.setIfInBounds_toArray, List.set_cons_zero, List.set_cons_succ]
            apply wpAnyH_take (i := 5)
            · rfl
            · kernel_rfl
            · kernel_rfl
            · kernel_rfl
            · exact fun _ _ _ h => h
            · (refine Or.inl ⟨by rfl, ?_⟩; intro w hSw; (try dsimp only at hSw); go_simp; try with_reducible rfl)
            · assumption
            simp only [Act.put, List.setIfInBounds_toArray, List.set_cons_zero, List.set_cons_succ]
            apply wpAnyH_take (i := 6)
            · rfl
            · kernel_rfl
            · kernel_rfl
            · kernel_rfl
            · exact fun _ _ _ h => h
            · (refine Or.inl ⟨by rfl, ?_⟩; intro w hSw; (try dsimp only at hSw); go_simp; try with_reducible rfl)
            · assumption
            simp only [Act.put, List.setIfInBounds_toArray, List.set_cons_zero, List.set_cons_succ]
            apply wpAnyH_take (i := 7)
            · rfl
            · kernel_rfl
            · kernel_rfl
            · kernel_rfl
            · exact fun _ _ _ h => h
            · (refine Or.inl ⟨by rfl, ?_⟩; intro w hSw; (try dsimp only at hSw); go_simp; try with_reducible rfl)
            · assumption
            simp only [Act.put, List.setIfInBounds_toArray, List.set_cons_zero, List.set_cons_succ]
            apply wpAnyH_take (i := 9)
            · rfl
            · kernel_rfl
            · kernel_rfl
            · kernel_rfl
            · exact fun _ _ _ h => h
            · (refine Or.inl ⟨by rfl, ?_⟩; intro w hSw; (try dsimp only at hSw); go_simp; try with_reducible rfl)
            · assumption
            simp only [Act.put, List.setIfInBounds_toArray, List.set_cons_zero, List.set_cons_succ]
            apply wpAnyH_take (i := 12)
            · rfl
            · kernel_rfl
            · kernel_rfl
            · kernel_rfl
            · exact fun _ _ _ h => h
            · (refine Or.inl ⟨by rfl, ?_⟩; intro w hSw; (try dsimp only at hSw); go_simp; try with_reducible rfl)
            · assumption
            simp only [Act.put, List.setIfInBounds_toArray, List.set_cons_zero, List.set_cons_succ]
            apply wpAnyH_take (i := 13)
            · rfl
            · kernel_rfl
            · kernel_rfl
            · kernel_rfl
            · exact fun _ _ _ h => h
            · (refine Or.inl ⟨by rfl, ?_⟩; intro w hSw; (try dsimp only at hSw); go_simp; try with_reducible rfl)
            · assumption
            simp only [Act.put, List.setIfInBounds_toArray, List.set_cons_zero, List.set_cons_succ]
            apply wpAnyH_take (i := 14)
            · rfl
            · kernel_rfl
            · kernel_rfl
            · kernel_rfl
            · exact fun _ _ _ h => h
            · (refine Or.inl ⟨by rfl, ?_⟩; intro w hSw; (try dsimp only at hSw); go_simp; try with_reducible rfl)
            · assumption
            simp only [Act.put, List.setIfInBounds_toArray, List.set_cons_zero, List.set_cons_succ]
            apply wpAnyH_take (i := 15)
            · rfl
            · kernel_rfl
            · kernel_rfl
            · kernel_rfl
            · exact fun _ _ _ h => h
            · (refine Or.inl ⟨by rfl, ?_⟩; intro w hSw; (try dsimp only at hSw); go_simp; try with_reducible rfl)
            · assumption
            simp only [Act.put, List.setIfInBounds_toArray, List.set_cons_zero, List.set_cons_succ]
            apply wpAnyH_take (i := 16)
            · rfl
            · kernel_rfl
            · kernel_rfl
            · kernel_rfl
            · exact fun _ _ _ h => h
            · (refine Or.inl ⟨by rfl, ?_⟩; intro w hSw; (try dsimp only at hSw); go_simp; try with_reducible rfl)
            · assumption
            simp only [Act.put, List.setIfInBounds_toArray, List.set_cons_zero, List.set_cons_succ]
            apply wpAnyH_take (i := 17)
            · rfl
            · kernel_rfl
            · kernel_rfl
            · kernel_rfl
            · exact fun _ _ _ h => h
            · (refine Or.inl ⟨by rfl, ?_⟩; intro w hSw; (try dsimp only at hSw); go_simp; try with_reducible rfl)
            · assumption
            simp only [Act.put, List.setIfInBounds_toArray, List.set_cons_zero, List.set_cons_succ]
            refine wpAnyH_ready (rs := [1, 10]) (by kernel_rfl) (by simp) (AllReadyH.cons rfl (fun K hK => ?_) (AllReadyH.cons rfl (fun K hK => ?_) AllReadyH.nil))
            · skip
              go_simp
              refine hK.out _ _ ?_ (fun hHeld => ?_)
              · ((try dsimp only); first | exact SF.out _ ((Fr.refl _ wq).alloc _).drew | exact SF.out _ (((Fr.refl _ wq).alloc _).alloc _).drew | exact SF.out _ G3.out | exact SF.out _ G2.out | exact SF.out _ (G1.out.alloc _) | exact SF.out _ G1.out)
              · skip
                clear hK K
                (try simp only [Act.put, List.setIfInBounds_toArray, List.set_cons_zero, List.set_cons_succ])
                refine wpAnyH_ready (rs := [8, 10]) (by kernel_rfl) (by simp) (AllReadyH.cons rfl (fun K hK => ?_) (AllReadyH.cons rfl (fun K hK => ?_) AllReadyH.nil))
                · skip
                  refine step_append_r8 (.tmp 95) (.tmp 101) (by rfl) (by rfl) (by rfl) (by rfl) (xs := []) (ys := rs.take k)
                    (by first | exact OE.out | exact OE1.out | exact OE2.out)
                    (HS1.out _ (by first | exact ((Fr.refl _ wq).alloc _).drew | exact (((Fr.refl _ wq).alloc _).alloc _).drew))
                    (by rw [List.length_take, ← QT.out.len]; omega) (by omega) (by omega) ?_
                  intro ao1 cap1 w5 n1 hn1 o1 f1 d1
                  have g1 : Fr (Up wq.heap.size) wq w5 := by
                    first
                      | exact (((Fr.refl _ wq).alloc _).drew).then f1 (by rintro i hi ⟨x, hx, rfl⟩; cases hx; simp only [Up]; omega)
                      | exact ((((Fr.refl _ wq).alloc _).alloc _).drew).then f1 (by rintro i hi ⟨x, hx, rfl⟩; cases hx; simp only [Up]; omega)
                  have e1 : ∀ a, ao1 = some a → wq.heap.size ≤ a.block := by
                    intro a ha
                    rcases d1 with h | h
                    · rw [h] at ha; cases ha; simp only; omega
                    · have h2 := h a ha; simp at h2; omega
                  have G1 := Lib.hid g1
                  have O1 := Lib.hid o1
                  have E1 := Lib.hid e1
                  have D1 := Lib.hid f1
                  clear g1 o1 e1 d1 f1
                  refine hK.out _ _ ?_ (fun hHeld => ?_)
                  · ((try dsimp only); first | exact SF.out _ ((Fr.refl _ wq).alloc _).drew | exact SF.out _ (((Fr.refl _ wq).alloc _).alloc _).drew | exact SF.out _ G3.out | exact SF.out _ G2.out | exact SF.out _ (G1.out.alloc _) | exact SF.out _ G1.out)
                  · skip
                    clear hK K
                    (try simp only [Act.put, List.setIfInBounds_toArray, List.set_cons_zero, List.set_cons_succ])
                    refine wpAnyH_ready (rs := [10]) (by kernel_rfl) (by simp) (AllReadyH.cons rfl (fun K hK => ?_) AllReadyH.nil)
                    · skip
                      go_simp
                      refine hK.out _ _ ?_ (fun hHeld => ?_)
                      · ((try dsimp only); first | exact SF.out _ ((Fr.refl _ wq).alloc _).drew | exact SF.out _ (((Fr.refl _ wq).alloc _).alloc _).drew | exact SF.out _ G3.out | exact SF.out _ G2.out | exact SF.out _ (G1.out.alloc _) | exact SF.out _ G1.out)
                      · skip
                        clear hK K
                        (try simp only [Act.put, List.setIfInBounds_toArray, List.set_cons_zero, List.set_cons_succ])
                        refine wpAnyH_ready (rs := [11]) (by kernel_rfl) (by simp) (AllReadyH.cons rfl (fun K hK => ?_) AllReadyH.nil)
                        · skip
                          refine step_append_r8 (.tmp 102) (.tmp 104) (by rfl) (by rfl) (by rfl) (by rfl) (xs := [] ++ rs.take k) (ys := [⟨d, b, v, o⟩])
                            (by first | exact O1.out | exact O1.out.no ((Fr.refl No _).alloc _))
                            (by first | exact (Own.made (w := w5) (e := 36) (size := 4) #[.int .u32 d, .int .i64 b, .int .u32 v, .int .i64 o] 1 rfl (by decide)).sl | exact OB.out.sl.fr D1.out (by intro a ha ⟨x, hx, hxb⟩; cases ha; cases hx; simp only at hxb; omega) | exact OC.out.sl.fr D1.out (by intro a ha ⟨x, hx, hxb⟩; cases ha; cases hx; simp at hxb))
                            (by rfl) (by have := hn1.out; omega) (by omega) ?_
                          intro ao2 cap2 w6 n2 hn2 o2 f2 d2
                          have g2 : Fr (Up wq.heap.size) wq w6 := by
                            first
                              | exact G1.out.then f2 (by rintro i hi ⟨x, hx, rfl⟩; exact E1.out x hx)
                              | exact (G1.out.alloc _).then f2 (by rintro i hi ⟨x, hx, rfl⟩; exact E1.out x hx)
                          have e2 : ∀ a, ao2 = some a → wq.heap.size ≤ a.block := by
                            intro a ha
                            have hg := G1.out.size
                            rcases d2 with h | h
                            · exact E1.out a (by rw [← h]; exact ha)
                            · have h2 := h a ha; first | omega | (simp at h2; omega)
                          have G2 := Lib.hid g2
                          have O2 := Lib.hid o2
                          have E2 := Lib.hid e2
                          clear g2 o2 e2 d2 f2
                          refine hK.out _ _ ?_ (fun hHeld => ?_)
                          · ((try dsimp only); first | exact SF.out _ ((Fr.refl _ wq).alloc _).drew | exact SF.out _ (((Fr.refl _ wq).alloc _).alloc _).drew | exact SF.out _ G3.out | exact SF.out _ G2.out | exact SF.out _ (G1.out.alloc _) | exact SF.out _ G1.out)
                          · skip
                            clear hK K
                            (try simp only [Act.put, List.setIfInBounds_toArray, List.set_cons_zero, List.set_cons_succ])
                            refine wpAnyH_ready (rs := [18]) (by kernel_rfl) (by simp) (AllReadyH.cons rfl (fun K hK => ?_) AllReadyH.nil)
                            · skip
                              refine step_append_r8 (.tmp 105) (.tmp 111) (by rfl) (by rfl) (by rfl) (by rfl) (xs := [] ++ rs.take k ++ [⟨d, b, v, o⟩]) (ys := rs.drop k)
                                O2.out (HS2.out _ G2.out) (by rw [List.length_drop, ← QT.out.len]) (by have := hn1.out; have := hn2.out; omega) (by omega) ?_
                              intro ao3 cap3 w7 n3 hn3 o3 f3 d3
                              have g3 : Fr (Up wq.heap.size) wq w7 := G2.out.then f3 (by rintro i hi ⟨x, hx, rfl⟩; exact E2.out x hx)
                              have e3 : ∀ a, ao3 = some a → wq.heap.size ≤ a.block := by
                                intro a ha
                                have hg := G2.out.size
                                rcases d3 with h | h
                                · exact E2.out a (by rw [← h]; exact ha)
                                · have h2 := h a ha; omega
                              have G3 := Lib.hid g3
                              have O3 := Lib.hid o3
                              have E3 := Lib.hid e3
                              have hn4 : Hid (n3 = (rs.take k ++ ⟨d, b, v, o⟩ :: rs.drop k).length) := Lib.hid (by have h1 := hn1.out; have h2 := hn2.out; have h3 := hn3.out; have h4 := QT.out.len; simp; omega)
                              clear g3 o3 e3 d3 f3
                              refine hK.out _ _ ?_ (fun hHeld => ?_)
                              · ((try dsimp only); first | exact SF.out _ ((Fr.refl _ wq).alloc _).drew | exact SF.out _ (((Fr.refl _ wq).alloc _).alloc _).drew | exact SF.out _ G3.out | exact SF.out _ G2.out | exact SF.out _ (G1.out.alloc _) | exact SF.out _ G1.out)
                              · skip
                                clear hK K
                                (try simp only [Act.put, List.setIfInBounds_toArray, List.set_cons_zero, List.set_cons_succ])
                                apply wpAnyH_take (i := 19)
                                · rfl
                                · kernel_rfl
                                · kernel_rfl
                                · kernel_rfl
                                · exact fun _ _ _ h => h
                                · (refine Or.inl ⟨by rfl, ?_⟩; intro w hSw; (try dsimp only at hSw); go_simp; try with_reducible rfl)
                                · assumption
                                simp only [Act.put, List.setIfInBounds_toArray, List.set_cons_zero, List.set_cons_succ]
                                apply wpAnyH_take (i := 20)
                                · rfl
                                · kernel_rfl
                                · kernel_rfl
                                · kernel_rfl
                                · exact fun _ _ _ h => h
                                · (refine Or.inl ⟨by rfl, ?_⟩; intro w hSw; (try dsimp only at hSw); go_simp; try with_reducible rfl)
                                · assumption
                                simp only [Act.put, List.setIfInBounds_toArray, List.set_cons_zero, List.set_cons_succ]
                                refine wpAnyH_done (by kernel_rfl) ?_ _
                                change Oper.wp _ _ _ _ _ _
                                go_simp
                                go_wp2_with fail
                                all_goals go_ret
                                all_goals exact add_end QT.out QF.out FV.out hsz G3.out O3.out E3.out hn4.out HA.out
                · skip
                  go_simp
                  refine hK.out _ _ ?_ (fun hHeld => ?_)
                  · ((try dsimp only); first | exact SF.out _ ((Fr.refl _ wq).alloc _).drew | exact SF.out _ (((Fr.refl _ wq).alloc _).alloc _).drew | exact SF.out _ G3.out | exact SF.out _ G2.out | exact SF.out _ (G1.out.alloc _) | exact SF.out _ G1.out)
                  · skip
                    clear hK K
                    (try simp only [Act.put, List.setIfInBounds_toArray, List.set_cons_zero, List.set_cons_succ])
                    refine wpAnyH_ready (rs := [8]) (by kernel_rfl) (by simp) (AllReadyH.cons rfl (fun K hK => ?_) AllReadyH.nil)
                    · skip
                      refine step_append_r8 (.tmp 95) (.tmp 101) (by rfl) (by rfl) (by rfl) (by rfl) (xs := []) (ys := rs.take k)
                        (by first | exact OE.out | exact OE1.out | exact OE2.out)
                        (HS1.out _ (by first | exact ((Fr.refl _ wq).alloc _).drew | exact (((Fr.refl _ wq).alloc _).alloc _).drew))
                        (by rw [List.length_take, ← QT.out.len]; omega) (by omega) (by omega) ?_
                      intro ao1 cap1 w5 n1 hn1 o1 f1 d1
                      have g1 : Fr (Up wq.heap.size) wq w5 := by
                        first
                          | exact (((Fr.refl _ wq).alloc _).drew).then f1 (by rintro i hi ⟨x, hx, rfl⟩; cases hx; simp only [Up]; omega)
                          | exact ((((Fr.refl _ wq).alloc _).alloc _).drew).then f1 (by rintro i hi ⟨x, hx, rfl⟩; cases hx; simp only [Up]; omega)
                      have e1 : ∀ a, ao1 = some a → wq.heap.size ≤ a.block := by
                        intro a ha
                        rcases d1 with h | h
                        · rw [h] at ha; cases ha; simp only; omega
                        · have h2 := h a ha; simp at h2; omega
                      have G1 := Lib.hid g1
                      have O1 := Lib.hid o1
                      have E1 := Lib.hid e1
                      have D1 := Lib.hid f1
                      clear g1 o1 e1 d1 f1
                      refine hK.out _ _ ?_ (fun hHeld => ?_)
                      · ((try dsimp only); first | exact SF.out _ ((Fr.refl _ wq).alloc _).drew | exact SF.out _ (((Fr.refl _ wq).alloc _).alloc _).drew | exact SF.out _ G3.out | exact SF.out _ G2.out | exact SF.out _ (G1.out.alloc _) | exact SF.out _ G1.out)
                      · skip
                        clear hK K
                        (try simp only [Act.put, List.setIfInBounds_toArray, List.set_cons_zero, List.set_cons_succ])
                        refine wpAnyH_ready (rs := [11]) (by kernel_rfl) (by simp) (AllReadyH.cons rfl (fun K hK => ?_) AllReadyH.nil)
                        · skip
                          refine step_append_r8 (.tmp 102) (.tmp 104) (by rfl) (by rfl) (by rfl) (by rfl) (xs := [] ++ rs.take k) (ys := [⟨d, b, v, o⟩])
                            (by first | exact O1.out | exact O1.out.no ((Fr.refl No _).alloc _))
                            (by first | exact (Own.made (w := w5) (e := 36) (size := 4) #[.int .u32 d, .int .i64 b, .int .u32 v, .int .i64 o] 1 rfl (by decide)).sl | exact OB.out.sl.fr D1.out (by intro a ha ⟨x, hx, hxb⟩; cases ha; cases hx; simp only at hxb; omega) | exact OC.out.sl.fr D1.out (by intro a ha ⟨x, hx, hxb⟩; cases ha; cases hx; simp at hxb))
                            (by rfl) (by have := hn1.out; omega) (by omega) ?_
                          intro ao2 cap2 w6 n2 hn2 o2 f2 d2
                          have g2 : Fr (Up wq.heap.size) wq w6 := by
                            first
                              | exact G1.out.then f2 (by rintro i hi ⟨x, hx, rfl⟩; exact E1.out x hx)
                              | exact (G1.out.alloc _).then f2 (by rintro i hi ⟨x, hx, rfl⟩; exact E1.out x hx)
                          have e2 : ∀ a, ao2 = some a → wq.heap.size ≤ a.block := by
                            intro a ha
                            have hg := G1.out.size
                            rcases d2 with h | h
                            · exact E1.out a (by rw [← h]; exact ha)
                            · have h2 := h a ha; first | omega | (simp at h2; omega)
                          have G2 := Lib.hid g2
                          have O2 := Lib.hid o2
                          have E2 := Lib.hid e2
                          clear g2 o2 e2 d2 f2
                          refine hK.out _ _ ?_ (fun hHeld => ?_)
                          · ((try dsimp only); first | exact SF.out _ ((Fr.refl _ wq).alloc _).drew | exact SF.out _ (((Fr.refl _ wq).alloc _).alloc _).drew | exact SF.out _ G3.out | exact SF.out _ G2.out | exact SF.out _ (G1.out.alloc _) | exact SF.out _ G1.out)
                          · skip
                            clear hK K
                            (try simp only [Act.put, List.setIfInBounds_toArray, List.set_cons_zero, List.set_cons_succ])
                            refine wpAnyH_ready (rs := [18]) (by kernel_rfl) (by simp) (AllReadyH.cons rfl (fun K hK => ?_) AllReadyH.nil)
                            · skip
                              refine step_append_r8 (.tmp 105) (.tmp 111) (by rfl) (by rfl) (by rfl) (by rfl) (xs := [] ++ rs.take k ++ [⟨d, b, v, o⟩]) (ys := rs.drop k)
                                O2.out (HS2.out _ G2.out) (by rw [List.length_drop, ← QT.out.len]) (by have := hn1.out; have := hn2.out; omega) (by omega) ?_
                              intro ao3 cap3 w7 n3 hn3 o3 f3 d3
                              have g3 : Fr (Up wq.heap.size) wq w7 := G2.out.then f3 (by rintro i hi ⟨x, hx, rfl⟩; exact E2.out x hx)
                              have e3 : ∀ a, ao3 = some a → wq.heap.size ≤ a.block := by
                                intro a ha
                                have hg := G2.out.size
                                rcases d3 with h | h
                                · exact E2.out a (by rw [← h]; exact ha)
                                · have h2 := h a ha; omega
                              have G3 := Lib.hid g3
                              have O3 := Lib.hid o3
                              have E3 := Lib.hid e3
                              have hn4 : Hid (n3 = (rs.take k ++ ⟨d, b, v, o⟩ :: rs.drop k).length) := Lib.hid (by have h1 := hn1.out; have h2 := hn2.out; have h3 := hn3.out; have h4 := QT.out.len; simp; omega)
                              clear g3 o3 e3 d3 f3
                              refine hK.out _ _ ?_ (fun hHeld => ?_)
                              · ((try dsimp only); first | exact SF.out _ ((Fr.refl _ wq).alloc _).drew | exact SF.out _ (((Fr.refl _ wq).alloc _).alloc _).drew | exact SF.out _ G3.out | exact SF.out _ G2.out | exact SF.out _ (G1.out.alloc _) | exact SF.out _ G1.out)
                              · skip
                                clear hK K
                                (try simp only [Act.put, List.setIfInBounds_toArray, List.set_cons_zero, List.set_cons_succ])
                                apply wpAnyH_take (i := 19)
                                · rfl
                                · kernel_rfl
                                · kernel_rfl
                                · kernel_rfl
                                · exact fun _ _ _ h => h
                                · (refine Or.inl ⟨by rfl, ?_⟩; intro w hSw; (try dsimp only at hSw); go_simp; try with_reducible rfl)
                                · assumption
                                simp only [Act.put, List.setIfInBounds_toArray, List.set_cons_zero, List.set_cons_succ]
                                apply wpAnyH_take (i := 20)
                                · rfl
                                · kernel_rfl
                                · kernel_rfl
                                · kernel_rfl
                                · exact fun _ _ _ h => h
                                · (refine Or.inl ⟨by rfl, ?_⟩; intro w hSw; (try dsimp only at hSw); go_simp; try with_reducible rfl)
                                · assumption
                                simp only [Act.put, List.setIfInBounds_toArray, List.set_cons_zero, List.set_cons_succ]
                                refine wpAnyH_done (by kernel_rfl) ?_ _
                                change Oper.wp _ _ _ _ _ _
                                go_simp
                                go_wp2_with fail
                                all_goals go_ret
                                all_goals exact add_end QT.out QF.out FV.out hsz G3.out O3.out E3.out hn4.out HA.out
            · skip
              go_simp
              refine hK.out _ _ ?_ (fun hHeld => ?_)
              · ((try dsimp only); first | exact SF.out _ ((Fr.refl _ wq).alloc _).drew | exact SF.out _ (((Fr.refl _ wq).alloc _).alloc _).drew | exact SF.out _ G3.out | exact SF.out _ G2.out | exact SF.out _ (G1.out.alloc _) | exact SF.out _ G1.out)
              · skip
                clear hK K
                (try simp only [Act.put, List.setIfInBounds_toArray, List.set_cons_zero, List.set_cons_succ])
                refine wpAnyH_ready (rs := [1]) (by kernel_rfl) (by simp) (AllReadyH.cons rfl (fun K hK => ?_) AllReadyH.nil)
                · skip
                  go_simp
                  refine hK.out _ _ ?_ (fun hHeld => ?_)
                  · ((try dsimp only); first | exact SF.out _ ((Fr.refl _ wq).alloc _).drew | exact SF.out _ (((Fr.refl _ wq).alloc _).alloc _).drew | exact SF.out _ G3.out | exact SF.out _ G2.out | exact SF.out _ (G1.out.alloc _) | exact SF.out _ G1.out)
                  · skip
                    clear hK K
                    (try simp only [Act.put, List.setIfInBounds_toArray, List.set_cons_zero, List.set_cons_succ])
                    refine wpAnyH_ready (rs := [8]) (by kernel_rfl) (by simp) (AllReadyH.cons rfl (fun K hK => ?_) AllReadyH.nil)
                    · skip
                      refine step_append_r8 (.tmp 95) (.tmp 101) (by rfl) (by rfl) (by rfl) (by rfl) (xs := []) (ys := rs.take k)
                        (by first | exact OE.out | exact OE1.out | exact OE2.out)
                        (HS1.out _ (by first | exact ((Fr.refl _ wq).alloc _).drew | exact (((Fr.refl _ wq).alloc _).alloc _).drew))
                        (by rw [List.length_take, ← QT.out.len]; omega) (by omega) (by omega) ?_
                      intro ao1 cap1 w5 n1 hn1 o1 f1 d1
                      have g1 : Fr (Up wq.heap.size) wq w5 := by
                        first
                          | exact (((Fr.refl _ wq).alloc _).drew).then f1 (by rintro i hi ⟨x, hx, rfl⟩; cases hx; simp only [Up]; omega)
                          | exact ((((Fr.refl _ wq).alloc _).alloc _).drew).then f1 (by rintro i hi ⟨x, hx, rfl⟩; cases hx; simp only [Up]; omega)
                      have e1 : ∀ a, ao1 = some a → wq.heap.size ≤ a.block := by
                        intro a ha
                        rcases d1 with h | h
                        · rw [h] at ha; cases ha; simp only; omega
                        · have h2 := h a ha; simp at h2; omega
                      have G1 := Lib.hid g1
                      have O1 := Lib.hid o1
                      have E1 := Lib.hid e1
                      have D1 := Lib.hid f1
                      clear g1 o1 e1 d1 f1
                      refine hK.out _ _ ?_ (fun hHeld => ?_)
                      · ((try dsimp only); first | exact SF.out _ ((Fr.refl _ wq).alloc _).drew | exact SF.out _ (((Fr.refl _ wq).alloc _).alloc _).drew | exact SF.out _ G3.out | exact SF.out _ G2.out | exact SF.out _ (G1.out.alloc _) | exact SF.out _ G1.out)
                      · skip
                        clear hK K
                        (try simp only [Act.put, List.setIfInBounds_toArray, List.set_cons_zero, List.set_cons_succ])
                        refine wpAnyH_ready (rs := [11]) (by kernel_rfl) (by simp) (AllReadyH.cons rfl (fun K hK => ?_) AllReadyH.nil)
                        · skip
                          refine step_append_r8 (.tmp 102) (.tmp 104) (by rfl) (by rfl) (by rfl) (by rfl) (xs := [] ++ rs.take k) (ys := [⟨d, b, v, o⟩])
                            (by first | exact O1.out | exact O1.out.no ((Fr.refl No _).alloc _))
                            (by first | exact (Own.made (w := w5) (e := 36) (size := 4) #[.int .u32 d, .int .i64 b, .int .u32 v, .int .i64 o] 1 rfl (by decide)).sl | exact OB.out.sl.fr D1.out (by intro a ha ⟨x, hx, hxb⟩; cases ha; cases hx; simp only at hxb; omega) | exact OC.out.sl.fr D1.out (by intro a ha ⟨x, hx, hxb⟩; cases ha; cases hx; simp at hxb))
                            (by rfl) (by have := hn1.out; omega) (by omega) ?_
                          intro ao2 cap2 w6 n2 hn2 o2 f2 d2
                          have g2 : Fr (Up wq.heap.size) wq w6 := by
                            first
                              | exact G1.out.then f2 (by rintro i hi ⟨x, hx, rfl⟩; exact E1.out x hx)
                              | exact (G1.out.alloc _).then f2 (by rintro i hi ⟨x, hx, rfl⟩; exact E1.out x hx)
                          have e2 : ∀ a, ao2 = some a → wq.heap.size ≤ a.block := by
                            intro a ha
                            have hg := G1.out.size
                            rcases d2 with h | h
                            · exact E1.out a (by rw [← h]; exact ha)
                            · have h2 := h a ha; first | omega | (simp at h2; omega)
                          have G2 := Lib.hid g2
                          have O2 := Lib.hid o2
                          have E2 := Lib.hid e2
                          clear g2 o2 e2 d2 f2
                          refine hK.out _ _ ?_ (fun hHeld => ?_)
                          · ((try dsimp only); first | exact SF.out _ ((Fr.refl _ wq).alloc _).drew | exact SF.out _ (((Fr.refl _ wq).alloc _).alloc _).drew | exact SF.out _ G3.out | exact SF.out _ G2.out | exact SF.out _ (G1.out.alloc _) | exact SF.out _ G1.out)
                          · skip
                            clear hK K
                            (try simp only [Act.put, List.setIfInBounds_toArray, List.set_cons_zero, List.set_cons_succ])
                            refine wpAnyH_ready (rs := [18]) (by kernel_rfl) (by simp) (AllReadyH.cons rfl (fun K hK => ?_) AllReadyH.nil)
                            · skip
                              refine step_append_r8 (.tmp 105) (.tmp 111) (by rfl) (by rfl) (by rfl) (by rfl) (xs := [] ++ rs.take k ++ [⟨d, b, v, o⟩]) (ys := rs.drop k)
                                O2.out (HS2.out _ G2.out) (by rw [List.length_drop, ← QT.out.len]) (by have := hn1.out; have := hn2.out; omega) (by omega) ?_
                              intro ao3 cap3 w7 n3 hn3 o3 f3 d3
                              have g3 : Fr (Up wq.heap.size) wq w7 := G2.out.then f3 (by rintro i hi ⟨x, hx, rfl⟩; exact E2.out x hx)
                              have e3 : ∀ a, ao3 = some a → wq.heap.size ≤ a.block := by
                                intro a ha
                                have hg := G2.out.size
                                rcases d3 with h | h
                                · exact E2.out a (by rw [← h]; exact ha)
                                · have h2 := h a ha; omega
                              have G3 := Lib.hid g3
                              have O3 := Lib.hid o3
                              have E3 := Lib.hid e3
                              have hn4 : Hid (n3 = (rs.take k ++ ⟨d, b, v, o⟩ :: rs.drop k).length) := Lib.hid (by have h1 := hn1.out; have h2 := hn2.out; have h3 := hn3.out; have h4 := QT.out.len; simp; omega)
                              clear g3 o3 e3 d3 f3
                              refine hK.out _ _ ?_ (fun hHeld => ?_)
                              · ((try dsimp only); first | exact SF.out _ ((Fr.refl _ wq).alloc _).drew | exact SF.out _ (((Fr.refl _ wq).alloc _).alloc _).drew | exact SF.out _ G3.out | exact SF.out _ G2.out | exact SF.out _ (G1.out.alloc _) | exact SF.out _ G1.out)
                              · skip
                                clear hK K
                                (try simp only [Act.put, List.setIfInBounds_toArray, List.set_cons_zero, List.set_cons_succ])
                                apply wpAnyH_take (i := 19)
                                · rfl
                                · kernel_rfl
                                · kernel_rfl
                                · kernel_rfl
                                · exact fun _ _ _ h => h
                                · (refine Or.inl ⟨by rfl, ?_⟩; intro w hSw; (try dsimp only at hSw); go_simp; try with_reducible rfl)
                                · assumption
                                simp only [Act.put, List.setIfInBounds_toArray, List.set_cons_zero, List.set_cons_succ]
                                apply wpAnyH_take (i := 20)
                                · rfl
                                · kernel_rfl
                                · kernel_rfl
                                · kernel_rfl
                                · exact fun _ _ _ h => h
                                · (refine Or.inl ⟨by rfl, ?_⟩; intro w hSw; (try dsimp only at hSw); go_simp; try with_reducible rfl)
                                · assumption
                                simp only [Act.put, List.setIfInBounds_toArray, List.set_cons_zero, List.set_cons_succ]
                                refine wpAnyH_done (by kernel_rfl) ?_ _
                                change Oper.wp _ _ _ _ _ _
                                go_simp
                                go_wp2_with fail
                                all_goals go_ret
                                all_goals exact add_end QT.out QF.out FV.out hsz G3.out O3.out E3.out hn4.out HA.out
  · have hin : i < n := by have := T1.out.len; have := (List.getElem?_eq_some_iff.1 hy).1; omega
    have hi0 : (0 : Int) ≤ (i : Int) := by omega
    have hi1 : (i : Int) < (n : Int) := by omega
    have HY := Lib.hid (show AddR rs ⟨d, b, v, o⟩ 0 (rs.set i ⟨d, b, v, o⟩) from .inr (.inl ⟨HV.out, ⟨i, y, hy, hy1, hy2, rfl⟩, rfl⟩))
    clear hy hy1 hy2
    cases ao with
    | none => exfalso; have := T1.out.own.nocap rfl; omega
    | some g =>
      obtain ⟨hg0, -⟩ := T1.out.own.row g rfl
      obtain ⟨gb, goff, gsp⟩ := g
      cases hg0
      obtain ⟨u0, u1, u2, u3, q0, q1, q2, q3⟩ := T1.out.own.sl.cells hin T1.out.len
      obtain ⟨p0, p1, p2, p3⟩ := T1.out.own.free (i * 4)
      go_wp2_with fail
      go_region
      go_wp2_with fail
      go_ret
      have o1 := (((T1.out.own.setCell (j := i * 4) (by omega) (.int .u32 d)).setCell (j := i * 4 + 1) (by omega) (.int .i64 b)).setCell (j := i * 4 + 2) (by omega) (.int .u32 v)).setCell (j := i * 4 + 3) (by omega) (.int .i64 o)
      rw [set_flat rs i ⟨d, b, v, o⟩ (by rw [← T1.out.len]; exact hin)] at o1
      have f1 : Fr (S8 rb (some ⟨gb, 0, none⟩)) w ((((wv.setCell ⟨gb, i * 4, none⟩ (.int .u32 d)).setCell ⟨gb, i * 4 + 1, none⟩ (.int .i64 b)).setCell ⟨gb, i * 4 + 2, none⟩ (.int .u32 v)).setCell ⟨gb, i * 4 + 3, none⟩ (.int .i64 o)) :=
        (((FV.out.of_no.setCell (.inl (.inr ⟨_, rfl, rfl⟩)) _).setCell (.inl (.inr ⟨_, rfl, rfl⟩)) _).setCell (.inl (.inr ⟨_, rfl, rfl⟩)) _).setCell (.inl (.inr ⟨_, rfl, rfl⟩)) _
      have hne : rb ≠ gb := by have h := T1.out.sep _ rfl; simp only at h; omega
      refine ⟨_, n, cap, _, 0, rfl, HY.out, ⟨?_, by rw [List.length_set]; exact T1.out.len, o1.no (Fr.refl No _).drew, T1.out.sep⟩, .inl rfl, f1.drew⟩
      rw [show ∀ W : World, W.drew.heap = W.heap from fun _ => rfl]
      iterate 4 rw [Below.heap_setCell _ _ _ _ hne]
      exact T1.out.box
end Go.Proofs.Ytapiaaffnhmmiaa

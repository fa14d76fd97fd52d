/- the reference's base: Group, Less, old, find. the reference's base: its memory; find. -/
import Derived.Test.YtgmaelndhmnjiaaDoorFdA
import Derived.Test.YtgmaelndhmnjiaaDoorOwnSet
namespace Go.Proofs.YtgmaelndhmnjiaaDoor
open Go.RowKit
set_option linter.unusedVariables false
set_option linter.unusedSimpArgs false

set_option maxRecDepth 100000 in
set_option maxHeartbeats 1000000 in
theorem r15Group_any (m : Mac) (w : World) {b : Bool} (hb : grpM m = b) : Calls Tryd.prog 26 #[evM m] w fun e w' => e = .returned (.bool b) ∧ Fr No w w' := by
  obtain ⟨a0, a1, a2, a3, a4, a5⟩ := m
  have h0 : (0 : Int) ≤ (a0.toNat : Int) := by omega
  have h1 : (a0.toNat : Int) < 256 := by have := a0.toNat_lt; omega
  have h2 : ((a0.toNat : Int) % 2 == 1) = b := by
    rw [← hb]; unfold grpM; simp only; rw [Bool.eq_iff_iff]; simp; omega
  unfold evM byteV
  simp only
  clear hb
  go_enter Tryd.func26, Tryd.ntmps26
  go_wp2_with fail
  go_ret
  exact ⟨by rw [← h2]; rfl, (Fr.refl No w).alloc _⟩

def bytM (m : Mac) (k : Nat) : UInt8 := [m.a, m.b, m.c, m.d, m.e, m.f].getD k 0
theorem u8_lt (x y : UInt8) : (x < y) ↔ ((x.toNat : Int) < (y.toNat : Int)) := by rw [UInt8.lt_iff_toNat_lt]; omega
theorem ltM_step {x y : Mac} {k : Nat} (hk : k < 6) (he : ∀ j < k, bytM x j = bytM y j) (hne : bytM x k ≠ bytM y k) : ltM x y = decide (((bytM x k).toNat : Int) < ((bytM y k).toNat : Int)) := by
  obtain ⟨a, b, c, d, e, f⟩ := x
  obtain ⟨a', b', c', d', e', f'⟩ := y
  have hk6 : k = 0 ∨ k = 1 ∨ k = 2 ∨ k = 3 ∨ k = 4 ∨ k = 5 := by omega
  have e0 : 0 < k → a = a' := fun h => he 0 h
  have e1 : 1 < k → b = b' := fun h => he 1 h
  have e2 : 2 < k → c = c' := fun h => he 2 h
  have e3 : 3 < k → d = d' := fun h => he 3 h
  have e4 : 4 < k → e = e' := fun h => he 4 h
  unfold ltM macL
  rw [Bool.eq_iff_iff, decide_eq_true_eq, decide_eq_true_eq]
  rcases hk6 with rfl | rfl | rfl | rfl | rfl | rfl
  · have hne : a ≠ a' := hne
    show _ ↔ ((a.toNat : Int) < a'.toNat)
    rw [← u8_lt, List.cons_lt_cons_iff]; simp [hne]
  · obtain rfl := e0 (by omega)
    have hne : b ≠ b' := hne
    show _ ↔ ((b.toNat : Int) < b'.toNat)
    rw [← u8_lt]; simp [List.cons_lt_cons_iff, hne]
  · obtain rfl := e0 (by omega); obtain rfl := e1 (by omega)
    have hne : c ≠ c' := hne
    show _ ↔ ((c.toNat : Int) < c'.toNat)
    rw [← u8_lt]; simp [List.cons_lt_cons_iff, hne]
  · obtain rfl := e0 (by omega); obtain rfl := e1 (by omega); obtain rfl := e2 (by omega)
    have hne : d ≠ d' := hne
    show _ ↔ ((d.toNat : Int) < d'.toNat)
    rw [← u8_lt]; simp [List.cons_lt_cons_iff, hne]
  · obtain rfl := e0 (by omega); obtain rfl := e1 (by omega); obtain rfl := e2 (by omega); obtain rfl := e3 (by omega)
    have hne : e ≠ e' := hne
    show _ ↔ ((e.toNat : Int) < e'.toNat)
    rw [← u8_lt]; simp [List.cons_lt_cons_iff, hne]
  · obtain rfl := e0 (by omega); obtain rfl := e1 (by omega); obtain rfl := e2 (by omega); obtain rfl := e3 (by omega); obtain rfl := e4 (by omega)
    have hne : f ≠ f' := hne
    show _ ↔ ((f.toNat : Int) < f'.toNat)
    rw [← u8_lt]; simp [List.cons_lt_cons_iff, hne]
theorem ltM_stepN {x y : Mac} {k : Nat} (hk : k < 6) (he : ∀ j < k, bytM x j = bytM y j) (hne : bytM x k ≠ bytM y k) : ltM x y = decide ((bytM x k).toNat < (bytM y k).toNat) := by
  rw [ltM_step hk he hne, Bool.eq_iff_iff]; simp
theorem ltM_all {x y : Mac} (he : ∀ j < 6, bytM x j = bytM y j) : ltM x y = false := by
  obtain ⟨a, b, c, d, e, f⟩ := x
  obtain ⟨a', b', c', d', e', f'⟩ := y
  obtain rfl : a = a' := he 0 (by omega)
  obtain rfl : b = b' := he 1 (by omega)
  obtain rfl : c = c' := he 2 (by omega)
  obtain rfl : d = d' := he 3 (by omega)
  obtain rfl : e = e' := he 4 (by omega)
  obtain rfl : f = f' := he 5 (by omega)
  exact ltM_irrefl _
theorem encM_get {w : World} {b : Nat} {m : Mac} {t : TypeId} (h : w.heap[b]? = some (.cells (encM m).toArray t (0, 0))) {k : Nat} (hk : k < 6) : w.cell? ⟨b, k, none⟩ = some (.int .u8 ((bytM m k).toNat : Int)) := by
  rw [cell_of_row w b k _ _ _ h]
  have hk6 : k = 0 ∨ k = 1 ∨ k = 2 ∨ k = 3 ∨ k = 4 ∨ k = 5 := by omega
  rcases hk6 with rfl | rfl | rfl | rfl | rfl | rfl <;> rfl

set_option maxRecDepth 100000 in
set_option maxHeartbeats 2000000 in
theorem r15Less_any (x y : Mac) (w : World) {b : Bool} (hb : ltM x y = b) : Calls Tryd.prog 52 #[evM x, evM y] w fun e w' => e = .returned (.bool b) ∧ Fr No w w' := by
  have hA := ((Fr.refl No _).alloc (.cells (encM y).toArray 31)).heap (heap_alloc_new w (.cells (encM x).toArray 31)) (fun h => h)
  have hB := heap_alloc_new (w.alloc (.cells (encM x).toArray 31)) (.cells (encM y).toArray 31)
  simp only [World.size_alloc] at hB
  have hF := ((Fr.refl No w).alloc (.cells (encM x).toArray 31)).alloc (.cells (encM y).toArray 31)
  obtain ⟨x0, x1, x2, x3, x4, x5⟩ := x
  obtain ⟨y0, y1, y2, y3, y4, y5⟩ := y
  unfold encM byteV at hA hB hF
  simp only at hA hB hF
  have HL := Lib.hid hb
  clear hb
  unfold evM byteV
  simp only
  go_enter Tryd.func52, Tryd.ntmps52
  go_wp2_with fail
  generalize World.alloc _ _ = w0 at hA hB hF ⊢
  generalize w.heap.size + 1 = bB at hB ⊢
  generalize w.heap.size = bA at hA ⊢
  obtain ⟨x, hx⟩ : ∃ x : Mac, ⟨x0, x1, x2, x3, x4, x5⟩ = x := ⟨_, rfl⟩
  obtain ⟨y, hy⟩ : ∃ y : Mac, ⟨y0, y1, y2, y3, y4, y5⟩ = y := ⟨_, rfl⟩
  have HA : Hid (w0.heap[bA]? = some (.cells (encM x).toArray 31 (0, 0))) := Lib.hid (by rw [← hx]; exact hA)
  have HB : Hid (w0.heap[bB]? = some (.cells (encM y).toArray 31 (0, 0))) := Lib.hid (by rw [← hy]; exact hB)
  have HF := Lib.hid hF
  rw [hx, hy] at HL
  clear hA hB hF hx hy
  go_loopw [5] (fun t5 wr => ∃ k : Nat, k ≤ 6 ∧ t5 = .int .i64 k ∧ (∀ j < k, bytM x j = bytM y j) ∧ Fr No w0 wr) (fun t5 _ => 6 - (intOf t5).toNat)
  case atStart => exact ⟨0, by omega, rfl, by intro j hj; omega, Fr.refl _ _⟩
  case round =>
    obtain ⟨k, hk, rfl, he, f1⟩ := hrel
    have HE := Lib.hid he
    have F1 := Lib.hid f1
    clear he f1
    by_cases hlt : k < 6
    · have u0 := encM_get (F1.out.heap HA.out (fun h => h)) hlt
      have u1 := encM_get (F1.out.heap HB.out (fun h => h)) hlt
      have k6 : (k : Int) < 6 := by omega
      have k0 : (0 : Int) ≤ (k : Int) := by omega
      by_cases heq : bytM x k = bytM y k
      · have hne : (((bytM x k).toNat : Int) != ((bytM y k).toNat : Int)) = false := by simp [heq]
        have HEQ := Lib.hid heq
        clear heq
        go_wp2_with fail
        go_quiet (fail)
        go_wp2_with fail
        go_roundw
        case rel =>
          refine ⟨k + 1, by omega, by go_num, fun j hj => ?_, F1.out.drewN _⟩
          rcases Nat.lt_succ_iff_lt_or_eq.1 hj with h | h
          · exact HE.out j h
          · rw [h]; exact HEQ.out
        case measure => simp [intOf]; omega
      · have hne : (((bytM x k).toNat : Int) != ((bytM y k).toNat : Int)) = true := by
          simp; intro h; exact heq (UInt8.toNat_inj.1 (by omega))
        have HR := Lib.hid ((ltM_stepN hlt HE.out heq).symm.trans HL.out)
        clear heq
        go_wp2_with fail
        go_quiet (fail)
        go_wp2_with fail
        go_quiet (fail)
        go_wp2_with fail
        go_ret
        exact ⟨by rw [← HR.out]; rfl, ((HF.out.trans F1.out).drewN _).drewN _⟩
    · have hk6 : k = 6 := by omega
      have HR := Lib.hid ((ltM_all (x := x) (y := y) (fun j hj => HE.out j (by omega))).symm.trans HL.out)
      clear hlt
      subst hk6
      go_wp2_with fail
      go_ret
      exact ⟨by rw [← HR.out]; rfl, HF.out.trans F1.out⟩

set_option maxRecDepth 100000 in
set_option maxHeartbeats 1000000 in
theorem r15old_any {w : World} {rb : Nat} {room life now : Int} {sl : Value} {e : En} (h0 : w.heap[rb]? = some (.cells #[.int .i64 room, .int .u64 life, sl] 58 (0, 0))) (hok : e.ok) (hn0 : 0 ≤ now) (hn1 : now < 18446744073709551616)
    {r : Bool} (hr : oldE life e now = r) :
    Calls Tryd.prog 40 #[.pointer (some ⟨rb, 0, none⟩), evE e, .int .u64 now] w fun e w' => e = .returned (.bool r) ∧ Fr No w w' := by
  obtain ⟨⟨a, b, c, d, e, f⟩, tu, pn, at_, st⟩ := e
  obtain ⟨-, ha0, ha1⟩ := hok
  unfold oldE at hr
  simp only at hr ha0 ha1
  have hc : ∀ o, (w.alloc o).cell? ⟨rb, 1, none⟩ = some (.int .u64 life) := fun o => by
    rw [cell_of_row _ _ _ _ _ _ (((Fr.refl No w).alloc o).heap h0 (fun h => h))]; rfl
  have hB := heap_alloc_new w (.cells #[.int .u8 (a.toNat : Int), .int .u8 (b.toNat : Int), .int .u8 (c.toNat : Int), .int .u8 (d.toNat : Int), .int .u8 (e.toNat : Int), .int .u8 (f.toNat : Int), .bool tu, .int .i64 pn, .int .u64 at_, .bool st] 62)
  have hF := (Fr.refl No w).alloc (.cells #[.int .u8 (a.toNat : Int), .int .u8 (b.toNat : Int), .int .u8 (c.toNat : Int), .int .u8 (d.toNat : Int), .int .u8 (e.toNat : Int), .int .u8 (f.toNat : Int), .bool tu, .int .i64 pn, .int .u64 at_, .bool st] 62)
  have hc := hc (.cells #[.int .u8 (a.toNat : Int), .int .u8 (b.toNat : Int), .int .u8 (c.toNat : Int), .int .u8 (d.toNat : Int), .int .u8 (e.toNat : Int), .int .u8 (f.toNat : Int), .bool tu, .int .i64 pn, .int .u64 at_, .bool st] 62)
  clear h0
  unfold evE byteV
  simp only
  have HR := Lib.hid hr
  have HF := Lib.hid hF
  clear hr hF hB
  by_cases hlt : at_ < now
  · have HM : Hid (now - min now at_ = now - at_) := Lib.hid (by omega)
    have d0 : 0 ≤ now - at_ := by omega
    have d1 : now - at_ < 18446744073709551616 := by omega
    rw [HM.out] at HR
    cases st with
    | true =>
      go_enter Tryd.func40, Tryd.ntmps40
      go_wp2_with fail
      go_ret
      exact ⟨by rw [← HR.out]; rfl, HF.out⟩
    | false =>
      obtain ⟨q, hq⟩ : ∃ q, decide (life ≤ now - at_) = q := ⟨_, rfl⟩
      rw [hq] at HR
      go_enter Tryd.func40, Tryd.ntmps40
      go_wp2_with fail
      go_ret
      exact ⟨by rw [← HR.out]; rfl, HF.out⟩
  · have HM : Hid (now - min now at_ = 0) := Lib.hid (by omega)
    rw [HM.out] at HR
    cases st with
    | true =>
      go_enter Tryd.func40, Tryd.ntmps40
      go_wp2_with fail
      go_ret
      exact ⟨by rw [← HR.out]; rfl, HF.out⟩
    | false =>
      obtain ⟨q, hq⟩ : ∃ q, decide (life ≤ 0) = q := ⟨_, rfl⟩
      rw [hq] at HR
      go_enter Tryd.func40, Tryd.ntmps40
      go_wp2_with fail
      go_ret
      exact ⟨by rw [← HR.out]; rfl, HF.out⟩
end Go.Proofs.YtgmaelndhmnjiaaDoor
namespace Go.Proofs.YtgmaelndhmnjiaaDoor
open Go.RowKit
set_option linter.unusedVariables false
set_option linter.unusedSimpArgs false

theorem info_r15entry : (Tryd.prog.info? 62).map (fun i => (i.zero, i.size, i.bytes)) = some (some (.agg #[.int .u8 0, .int .u8 0, .int .u8 0, .int .u8 0, .int .u8 0, .int .u8 0, .bool false, .int .i64 0, .int .u64 0, .bool false]), 10, 40) := by kernel_rfl
theorem e_len (xs : AL) : (xs.flatMap encE).length = xs.length * 10 := by
  induction xs with
  | nil => rfl
  | cons x l ih => rw [List.flatMap_cons, List.length_append, ih, List.length_cons]; show 10 + _ = _; omega
theorem e_drop (xs : AL) (k : Nat) : (xs.flatMap encE).drop (k * 10) = (xs.drop k).flatMap encE := by
  induction xs generalizing k with
  | nil => simp
  | cons x l ih =>
    cases k with
    | zero => simp
    | succ k =>
      rw [List.flatMap_cons, List.drop_succ_cons, ← ih k, List.drop_append, List.drop_of_length_le (by show 10 ≤ _; omega)]
      show [] ++ List.drop ((k + 1) * 10 - 10) _ = _
      rw [show (k + 1) * 10 - 10 = k * 10 by omega]; rfl
theorem e_take (xs : AL) (k : Nat) : (xs.flatMap encE).take (k * 10) = (xs.take k).flatMap encE := by
  have h1 := List.take_append_drop (k * 10) (xs.flatMap encE)
  have h2 : xs.flatMap encE = (xs.take k).flatMap encE ++ (xs.drop k).flatMap encE := by rw [← List.flatMap_append, List.take_append_drop]
  rw [e_drop] at h1
  exact List.append_cancel_right (h1.trans h2)
theorem Sl.uptoE {w : World} {ao : Option Addr} {n cap : Nat} {rs : AL} (h : Sl w ao n cap (rs.flatMap encE)) {k : Nat} (hk : k ≤ n) : Sl w ao k cap ((rs.take k).flatMap encE) := by
  have h1 := h.le
  have h2 := h.cut (size := 10) 0 k cap (by omega) (by omega) (Nat.le_refl _) (a' := ao) (by split; rfl; cases ao <;> simp [Addr.add_zero'])
  simp only [Nat.sub_zero, Nat.zero_mul, List.drop_zero, e_take] at h2
  exact h2
theorem Sl.fromE {w : World} {g n cap : Nat} {rs : AL} (hn : n = rs.length) (h : Sl w (some ⟨g, 0, none⟩) n cap (rs.flatMap encE)) {k : Nat} (hk : k ≤ n) :
    Sl w (if cap = k then some ⟨g, 0, none⟩ else some ⟨g, k * 10, none⟩) (n - k) (cap - k) ((rs.drop k).flatMap encE) := by
  have h1 := h.le
  have h2 := h.cut (size := 10) k n cap (by omega) (by omega) (Nat.le_refl _) (a' := if cap = k then some ⟨g, 0, none⟩ else some ⟨g, k * 10, none⟩) (by split; rfl; simp [Addr.add_lit])
  rw [e_drop, List.take_of_length_le (by rw [e_len, List.length_drop]; omega)] at h2
  exact h2
theorem e_get {A : AL} {i : Nat} {e : En} (hi : A[i]? = some e) {j : Nat} {u : Value} (hj : (encE e)[j]? = some u) : (A.flatMap encE)[i * 10 + j]? = some u := by
  have hjl : j < 10 := by have := (List.getElem?_eq_some_iff.1 hj).1; simpa [encE] using this
  induction A generalizing i with
  | nil => cases hi
  | cons x r ih =>
    rw [List.flatMap_cons]
    cases i with
    | zero =>
      simp only [List.getElem?_cons_zero, Option.some.injEq] at hi
      subst hi
      rw [Nat.zero_mul, Nat.zero_add, List.getElem?_append_left (by simpa [encE] using hjl)]
      exact hj
    | succ i =>
      rw [List.getElem?_append_right (by simp [encE]; omega), show (i + 1) * 10 + j - (encE x).length = i * 10 + j by simp [encE]; omega]
      exact ih (by simpa using hi)
/-- The cells of an entry of a row. -/
theorem e_cells {w : World} {g n cap : Nat} {rs : AL} (h : Sl w (some ⟨g, 0, none⟩) n cap (rs.flatMap encE)) {i : Nat} {a b c d e f : UInt8} {tu st : Bool} {pn at_ : Int} (hi : rs[i]? = some ⟨⟨a, b, c, d, e, f⟩, tu, pn, at_, st⟩) :
    w.cell? ⟨g, i * 10, none⟩ = some (.int .u8 (a.toNat : Int)) ∧ w.cell? ⟨g, i * 10 + 1, none⟩ = some (.int .u8 (b.toNat : Int)) ∧ w.cell? ⟨g, i * 10 + 2, none⟩ = some (.int .u8 (c.toNat : Int)) ∧ w.cell? ⟨g, i * 10 + 3, none⟩ = some (.int .u8 (d.toNat : Int)) ∧
    w.cell? ⟨g, i * 10 + 4, none⟩ = some (.int .u8 (e.toNat : Int)) ∧ w.cell? ⟨g, i * 10 + 5, none⟩ = some (.int .u8 (f.toNat : Int)) ∧ w.cell? ⟨g, i * 10 + 6, none⟩ = some (.bool tu) ∧ w.cell? ⟨g, i * 10 + 7, none⟩ = some (.int .i64 pn) ∧ w.cell? ⟨g, i * 10 + 8, none⟩ = some (.int .u64 at_) ∧ w.cell? ⟨g, i * 10 + 9, none⟩ = some (.bool st) := by
  have k : ∀ j u, (encE ⟨⟨a, b, c, d, e, f⟩, tu, pn, at_, st⟩)[j]? = some u → w.cell? ⟨g, i * 10 + j, none⟩ = some u := by
    intro j u hj
    have := h.cell _ rfl _ _ (e_get hi hj)
    rwa [Addr.add_lit, Nat.zero_add] at this
  exact ⟨k 0 _ rfl, k 1 _ rfl, k 2 _ rfl, k 3 _ rfl, k 4 _ rfl, k 5 _ rfl, k 6 _ rfl, k 7 _ rfl, k 8 _ rfl, k 9 _ rfl⟩

/-- The reference's base. -/
structure R15 (w : World) (rb : Nat) (ao : Option Addr) (n cap : Nat) (room life : Int) (rs : AL) : Prop where
  box : w.heap[rb]? = some (.cells #[.int .i64 room, .int .u64 life, .slice ao n cap] 58 (0, 0))
  len : n = rs.length
  own : Own w 62 10 ao n cap (rs.flatMap encE)
  ok : ∀ e ∈ rs, e.ok
def S15 (rb : Nat) (ao : Option Addr) : Nat → Prop := fun k => k = rb ∨ At ao k
theorem R15.fr {S : Nat → Prop} {w w' : World} {rb : Nat} {ao : Option Addr} {n cap : Nat} {room life : Int} {rs : AL} (h : R15 w rb ao n cap room life rs) (hf : Fr S w w') (h1 : ¬ S rb) (h2 : Out S ao) : R15 w' rb ao n cap room life rs :=
  ⟨hf.heap h.box h1, h.len, h.own.fr hf h2, h.ok⟩
theorem R15.no {w w' : World} {rb : Nat} {ao : Option Addr} {n cap : Nat} {room life : Int} {rs : AL} (h : R15 w rb ao n cap room life rs) (hf : Fr No w w') : R15 w' rb ao n cap room life rs := h.fr hf (fun h => h) (Out.no _)
theorem r15_types : 58 ≠ 62 := by decide
theorem R15.sep {w : World} {rb : Nat} {ao : Option Addr} {n cap : Nat} {room life : Int} {rs : AL} (h : R15 w rb ao n cap room life rs) : ∀ a, ao = some a → rb ≠ a.block := by
  intro a ha e
  obtain ⟨-, cur, h2, -⟩ := h.own.row a ha
  have := h.box
  rw [e, h2] at this
  simp only [Option.some.injEq, Obj.cells.injEq] at this
  exact r15_types this.2.1.symm
theorem R15.cells {w : World} {rb : Nat} {ao : Option Addr} {n cap : Nat} {room life : Int} {rs : AL} (h : R15 w rb ao n cap room life rs) : w.cell? ⟨rb, 0, none⟩ = some (.int .i64 room) ∧ w.cell? ⟨rb, 1, none⟩ = some (.int .u64 life) ∧ w.cell? ⟨rb, 2, none⟩ = some (.slice ao n cap) :=
  ⟨by rw [cell_of_row w _ _ _ _ _ h.box]; rfl, by rw [cell_of_row w _ _ _ _ _ h.box]; rfl, by rw [cell_of_row w _ _ _ _ _ h.box]; rfl⟩
theorem R15.some_ {w : World} {rb : Nat} {ao : Option Addr} {n cap : Nat} {room life : Int} {rs : AL} (h : R15 w rb ao n cap room life rs) {i : Nat} (hi : i < n) : ∃ g, ao = some ⟨g, 0, none⟩ := by
  cases ao with
  | none => exfalso; have h1 := h.own.nocap rfl; have h2 := h.own.le; omega
  | some a =>
    obtain ⟨h1, -⟩ := h.own.row a rfl
    exact ⟨a.block, by rw [← h1]⟩
def At15 (rs : AL) (m : Mac) (z : Int) : Prop := (z = -1 ∧ ∀ e ∈ rs, e.mac ≠ m) ∨ ∃ (i : Nat) (e : En), z = (i : Int) ∧ rs[i]? = some e ∧ e.mac = m

set_option maxRecDepth 100000 in
set_option maxHeartbeats 2000000 in
theorem r15find_any {w : World} {rb : Nat} {ao : Option Addr} {n cap : Nat} {room life : Int} {rs : AL} (h : R15 w rb ao n cap room life rs) (m : Mac) :
    Calls Tryd.prog 35 #[.pointer (some ⟨rb, 0, none⟩), evM m] w fun e w' => (∃ z, e = .returned (.int .i64 z) ∧ At15 rs m z) ∧ Fr No w w' := by
  have hc1 := h.own.le
  have hc2 := h.own.capLe
  obtain ⟨m0, m1, m2, m3, m4, m5⟩ := m
  have hB := heap_alloc_new w (.cells #[.int .u8 (m0.toNat : Int), .int .u8 (m1.toNat : Int), .int .u8 (m2.toNat : Int), .int .u8 (m3.toNat : Int), .int .u8 (m4.toNat : Int), .int .u8 (m5.toNat : Int)] 31)
  have hF := (Fr.refl No w).alloc (.cells #[.int .u8 (m0.toNat : Int), .int .u8 (m1.toNat : Int), .int .u8 (m2.toNat : Int), .int .u8 (m3.toNat : Int), .int .u8 (m4.toNat : Int), .int .u8 (m5.toNat : Int)] 31)
  have H1 := h.no hF
  clear h
  unfold evM byteV
  simp only
  go_enter Tryd.func35, Tryd.ntmps35
  go_wp2_with fail
  generalize World.alloc _ _ = w1 at hB hF H1 ⊢
  generalize w.heap.size = bx at hB ⊢
  have HB := Lib.hid hB
  have HF := Lib.hid hF
  have H := Lib.hid H1
  clear hB hF H1
  go_loopw [5] (fun t5 wr => ∃ j : Nat, j ≤ n ∧ t5 = .int .i64 j ∧ (∀ e ∈ rs.take j, e.mac ≠ ⟨m0, m1, m2, m3, m4, m5⟩) ∧ Fr No w1 wr) (fun t5 _ => n - (intOf t5).toNat)
  case atStart => exact ⟨0, by omega, rfl, by simp, Fr.refl _ _⟩
  case round =>
    obtain ⟨j, hj, rfl, hno, f1⟩ := hrel
    have HNO := Lib.hid hno
    have F1 := Lib.hid f1
    have HR := Lib.hid (H.out.no f1)
    obtain ⟨x0, x1, x2, x3, x4, x5⟩ := cells6 (f1.heap HB.out (fun h => h))
    obtain ⟨k0, k1, k2⟩ := HR.out.cells
    clear hno f1 k0 k1
    by_cases hlt : j < n
    · obtain ⟨gb, rfl⟩ := HR.out.some_ hlt
      obtain ⟨y, hy⟩ : ∃ y, rs[j]? = some y := ⟨rs[j]'(by rw [← H.out.len]; exact hlt), List.getElem?_eq_getElem _⟩
      obtain ⟨⟨a, b, c, d, e, f⟩, tu, pn, at_, st⟩ := y
      obtain ⟨y0, y1, y2, y3, y4, y5, -⟩ := e_cells HR.out.own.sl hy
      have HY := Lib.hid hy
      have bj : (j : Int) < (n : Int) := by omega
      have bj0 : (0 : Int) ≤ (j : Int) := by omega
      clear hy
      obtain ⟨q, hq⟩ : ∃ q, decide ((⟨a, b, c, d, e, f⟩ : Mac) = ⟨m0, m1, m2, m3, m4, m5⟩) = q := ⟨_, rfl⟩
      have HQ := Lib.hid hq
      have em : ∀ W, (binOp .eql 31 (.agg #[.int .u8 (a.toNat : Int), .int .u8 (b.toNat : Int), .int .u8 (c.toNat : Int), .int .u8 (d.toNat : Int), .int .u8 (e.toNat : Int), .int .u8 (f.toNat : Int)]) (.agg #[.int .u8 (m0.toNat : Int), .int .u8 (m1.toNat : Int), .int .u8 (m2.toNat : Int), .int .u8 (m3.toNat : Int), .int .u8 (m4.toNat : Int), .int .u8 (m5.toNat : Int)])).run Tryd.prog W = .ok (.bool q) W := fun W => by rw [← hq]; exact eqM ⟨a, b, c, d, e, f⟩ ⟨m0, m1, m2, m3, m4, m5⟩ W
      clear hq
      cases q with
      | true =>
        go_wp2_with fail
        go_quiet (fail)
        go_wp2_with fail
        go_ret
        exact ⟨⟨j, rfl, .inr ⟨j, _, rfl, HY.out, of_decide_eq_true HQ.out⟩⟩, (HF.out.trans F1.out).drewN _⟩
      | false =>
        go_wp2_with fail
        go_quiet (fail)
        go_wp2_with fail
        go_roundw
        case rel =>
          refine ⟨j + 1, by omega, by go_num, fun r hr => ?_, F1.out.drewN _⟩
          rw [List.take_add_one, HY.out] at hr
          rcases List.mem_append.1 hr with hr | hr
          · exact HNO.out r hr
          · simp at hr
            subst hr
            exact of_decide_eq_false HQ.out
        case measure => simp [intOf]; omega
    · have hjn : j = n := by omega
      have htk : rs.take j = rs := List.take_of_length_le (by have := H.out.len; omega)
      rw [htk] at HNO
      clear htk hjn
      go_wp2_with fail
      go_ret
      exact ⟨⟨-1, rfl, .inl ⟨rfl, HNO.out⟩⟩, HF.out.trans F1.out⟩
end Go.Proofs.YtgmaelndhmnjiaaDoor

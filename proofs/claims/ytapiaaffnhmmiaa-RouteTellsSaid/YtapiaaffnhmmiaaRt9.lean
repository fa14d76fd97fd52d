/- the reference's routes: Cut, Covers, find; same. -/
import Derived.Test.YtapiaaffnhmmiaaRt8
import Derived.Test.YtapiaaffnhmmiaaLawRouteOrder
namespace Go.Proofs.Ytapiaaffnhmmiaa
open Go.RowKit
set_option linter.unusedVariables false
set_option linter.unusedSimpArgs false

theorem cutN_exp (ip b : Int) : cutN ip b = ip - ip % 2 ^ (32 - max b 0).toNat := by
  unfold cutN
  congr 3
  omega
set_option maxRecDepth 100000 in
set_option maxHeartbeats 1000000 in
theorem r8Cut_any {ip b : Int} (w : World) (h0 : 0 ≤ ip) (h1 : ip < 4294967296) : Calls Try.prog 12 #[.int .u32 ip, .int .i64 b] w fun e w' => e = .returned (.int .u32 (cutN ip b)) ∧ w = w' := by
  obtain ⟨s, hs⟩ : ∃ s, max b 0 = s := ⟨_, rfl⟩
  have hs0 : 0 ≤ s := by omega
  have HC : Hid (cutN ip b = ip - ip % 2 ^ (32 - s).toNat) := Lib.hid (by rw [← hs]; exact cutN_exp ip b)
  have hmx : (if b < 0 then 0 else b) = s := by split <;> omega
  go_enter Try.func12, Try.ntmps12
  go_wp2
  go_loopw [5, 6] (fun t5 t6 wr => ∃ (k : Nat) (p : Int), k ≤ (32 - s).toNat ∧ 2 ^ k = p ∧ t6 = .int .i64 (s + k) ∧ t5 = .int .u64 p ∧ wr = w) (fun _ t6 _ => (32 - intOf t6).toNat)
  case atStart => exact ⟨0, 1, by omega, by simp, by simp, rfl, rfl⟩
  case round =>
    obtain ⟨k, p, hk, hp, rfl, rfl, rfl⟩ := hrel
    by_cases hlt : s + (k : Int) < 32
    · have hpb : 1 ≤ p ∧ p ≤ 4294967296 := by rw [← hp]; have := pow_lt32 k (by omega); omega
      obtain ⟨hp1, hp2⟩ := hpb
      have HP : Hid ((2 : Int) ^ (k + 1) = 2 * p) := Lib.hid (by rw [← hp, Int.pow_succ]; omega)
      clear hp
      go_wp2
      go_roundw
      case rel => exact ⟨k + 1, 2 * p, by omega, HP.out, by go_num, rfl, trivial⟩
      case measure => simp [intOf]; omega
    · have hke : k = (32 - s).toNat := by omega
      have hpb : 1 ≤ p ∧ p ≤ 4294967296 := by rw [← hp]; have := pow_lt32 k (by omega); omega
      obtain ⟨hp1, hp2⟩ := hpb
      have hm := Int.emod_nonneg ip (show p ≠ 0 by omega)
      have hm2 := Int.emod_lt_of_pos ip (show 0 < p by omega)
      have hm3 : ip % p ≤ ip := by
        have := Int.mul_ediv_add_emod ip p
        have h2 : 0 ≤ ip / p := Int.ediv_nonneg h0 (by omega)
        have h3 : 0 ≤ p * (ip / p) := Int.mul_nonneg (by omega) h2
        omega
      rw [← hke, hp] at HC
      clear hp hke
      go_wp2
      go_ret
      rw [HC.out]
      exact ⟨rfl, rfl⟩
theorem r8Cut_q (n : Nat) {ip b : Int} (w : World) (h0 : 0 ≤ ip) (h1 : ip < 4294967296) {x : Int} (hx : cutN ip b = x) : Calls Try.prog 12 #[.int .u32 ip, .int .i64 b] (w.drewN n) fun e w' => e = .returned (.int .u32 x) ∧ ∃ m, w' = w.drewN m :=
  (r8Cut_any (w.drewN n) h0 h1).mono fun e w' ⟨he, hw⟩ => ⟨by rw [he, hx], n, hw.symm⟩
theorem r8Cut_eq {ip b : Int} (w : World) (h0 : 0 ≤ ip) (h1 : ip < 4294967296) {x : Int} (hx : cutN ip b = x) : Calls Try.prog 12 #[.int .u32 ip, .int .i64 b] w fun e w' => e = .returned (.int .u32 x) ∧ w = w' := by
  rw [← hx]; exact r8Cut_any w h0 h1

set_option maxRecDepth 100000 in
set_option maxHeartbeats 1000000 in
theorem r8Covers_any (r : Rt) (ip : Int) (w : World) (h0 : 0 ≤ ip) (h1 : ip < 4294967296) {c : Bool} (hc : decide (cutN ip r.bits = r.dst) = c) : Calls Try.prog 23 #[evR r, .int .u32 ip] w fun e w' => e = .returned (.bool c) ∧ Fr No w w' := by
  obtain ⟨d, b, v, o⟩ := r
  simp only at hc
  obtain ⟨x, hx⟩ : ∃ x, cutN ip b = x := ⟨_, rfl⟩
  rw [hx] at hc
  have HX := Lib.hid hx
  clear hx
  unfold evR
  simp only
  go_enter Try.func23, Try.ntmps23
  go_wp2_with fail
  have hb := heap_alloc_new w (.cells #[.int .u32 d, .int .i64 b, .int .u32 v, .int .i64 o] 36)
  have F1 := Lib.hid ((Fr.refl No w).alloc (.cells #[.int .u32 d, .int .i64 b, .int .u32 v, .int .i64 o] 36))
  generalize w.heap.size = bx at hb ⊢
  generalize World.alloc _ _ = w1 at hb F1 ⊢
  obtain ⟨c0, c1, c2, c3⟩ := cells4 hb
  have hc' : (x == d) = c := by rw [← hc]; rfl
  clear hb
  go_quiet ((go_at_call 12; exact r8Cut_q _ _ h0 h1 HX.out))
  go_wp2_with fail
  go_ret
  exact ⟨by rw [← hc]; rfl, F1.out.drewN _⟩

set_option maxRecDepth 100000 in
set_option maxHeartbeats 1000000 in
theorem l8same_any (x y : Rt) (w : World) {c : Bool} (hc : decide (x = y) = c) : Calls Try.prog 18 #[evR x, evR y] w fun e w' => e = .returned (.bool c) ∧ Fr No w w' := by
  obtain ⟨d, b, v, o⟩ := x
  obtain ⟨d', b', v', o'⟩ := y
  have hc2 : (d == d' && (b == b' && (v == v' && (o == o' : Bool)))) = c := by rw [← hc, Bool.eq_iff_iff]; simp
  clear hc
  obtain ⟨e0, h0⟩ : ∃ e, (d == d') = e := ⟨_, rfl⟩
  obtain ⟨e1, h1⟩ : ∃ e, (b == b') = e := ⟨_, rfl⟩
  obtain ⟨e2, h2⟩ : ∃ e, (v == v') = e := ⟨_, rfl⟩
  obtain ⟨e3, h3⟩ : ∃ e, (o == o') = e := ⟨_, rfl⟩
  rw [h0, h1, h2, h3] at hc2
  unfold evR
  simp only
  go_enter Try.func18, Try.ntmps18
  cases e0 <;> cases e1 <;> cases e2 <;> simp at hc2 <;> subst hc2
  all_goals
    go_wp2_with fail
    go_ret
    exact ⟨rfl, ((Fr.refl No w).alloc _).alloc _⟩

/-- The reference's table. -/
structure R8 (w : World) (rb : Nat) (ao : Option Addr) (n cap : Nat) (rs : List Rt) : Prop where
  box : w.heap[rb]? = some (.cells #[.slice ao n cap] 29 (0, 0))
  len : n = rs.length
  own : Own w 36 4 ao n cap (rs.flatMap encR)
  sep : ∀ a, ao = some a → rb < a.block
def S8 (rb : Nat) (ao : Option Addr) : Nat → Prop := fun k => k = rb ∨ At ao k
theorem R8.fr {S : Nat → Prop} {w w' : World} {rb : Nat} {ao : Option Addr} {n cap : Nat} {rs : List Rt} (h : R8 w rb ao n cap rs) (hf : Fr S w w') (h1 : ¬ S rb) (h2 : Out S ao) : R8 w' rb ao n cap rs :=
  ⟨hf.heap h.box h1, h.len, h.own.fr hf h2, h.sep⟩
theorem R8.no {w w' : World} {rb : Nat} {ao : Option Addr} {n cap : Nat} {rs : List Rt} (h : R8 w rb ao n cap rs) (hf : Fr No w w') : R8 w' rb ao n cap rs := h.fr hf (fun h => h) (Out.no _)
theorem R8.cell {w : World} {rb : Nat} {ao : Option Addr} {n cap : Nat} {rs : List Rt} (h : R8 w rb ao n cap rs) : w.cell? ⟨rb, 0, none⟩ = some (.slice ao n cap) := cell_box h.box
def At8 (rs : List Rt) (d b z : Int) : Prop := (z = -1 ∧ ∀ r ∈ rs, ¬ (r.dst = d ∧ r.bits = b)) ∨ ∃ (i : Nat) (r : Rt), z = (i : Int) ∧ rs[i]? = some r ∧ r.dst = d ∧ r.bits = b

set_option maxRecDepth 100000 in
set_option maxHeartbeats 1000000 in
theorem r8find_any {w : World} {rb : Nat} {ao : Option Addr} {n cap : Nat} {rs : List Rt} (h : R8 w rb ao n cap rs) (d b : Int) :
    Calls Try.prog 22 #[.pointer (some ⟨rb, 0, none⟩), .int .u32 d, .int .i64 b] w fun e w' => (∃ z, e = .returned (.int .i64 z) ∧ At8 rs d b z) ∧ w = w' := by
  have kt := h.cell
  have H := Lib.hid h
  have hc1 := h.own.le
  have hc2 := h.own.capLe
  clear h
  go_enter Try.func22, Try.ntmps22
  go_wp2_with fail
  go_loopw [7] (fun t7 wr => ∃ j : Nat, j ≤ n ∧ t7 = .int .i64 j ∧ (∀ r ∈ rs.take j, ¬ (r.dst = d ∧ r.bits = b)) ∧ wr = w) (fun t7 _ => n - (intOf t7).toNat)
  case atStart => exact ⟨0, by omega, rfl, by simp, rfl⟩
  case round =>
    obtain ⟨j, hj, rfl, hno, rfl⟩ := hrel
    have HNO := Lib.hid hno
    clear hno
    by_cases hlt : j < n
    · obtain ⟨y, hy⟩ : ∃ y, rs[j]? = some y := ⟨rs[j]'(by rw [← H.out.len]; exact hlt), List.getElem?_eq_getElem _⟩
      obtain ⟨gb, goff, rfl, y0, y1, y2, y3⟩ := rows4_any H.out.len H.out.own.sl hy
      obtain ⟨yd, yb, yv, yo⟩ := y
      simp only at y0 y1 y2 y3
      have HY := Lib.hid hy
      have bj : (j : Int) < (n : Int) := by omega
      clear hy
      obtain ⟨e1, he1⟩ : ∃ e1, (yd == d) = e1 := ⟨_, rfl⟩
      obtain ⟨e2, he2⟩ : ∃ e2, (yb == b) = e2 := ⟨_, rfl⟩
      have HNN : Hid (¬ (e1 = true ∧ e2 = true) → ∀ r ∈ rs.take (j + 1), ¬ (r.dst = d ∧ r.bits = b)) := Lib.hid (by
        intro hne r hr
        rw [List.take_add_one, HY.out] at hr
        rcases List.mem_append.1 hr with hr | hr
        · exact HNO.out r hr
        · simp at hr
          subst hr
          rw [← he1, ← he2] at hne
          simpa using hne)
      have HYY : Hid (e1 = true → e2 = true → At8 rs d b j) := Lib.hid (by
        intro h1 h2
        rw [← he1] at h1; rw [← he2] at h2
        exact .inr ⟨j, _, rfl, HY.out, by simpa using h1, by simpa using h2⟩)
      cases e1 <;> cases e2
      case true.true =>
        have HA := Lib.hid (HYY.out rfl rfl)
        go_wp2_with fail
        go_ret
        exact ⟨⟨j, rfl, HA.out⟩, rfl⟩
      all_goals
        go_wp2_with fail
        go_roundw
        case rel => exact ⟨j + 1, by omega, by go_num, HNN.out (by simp), trivial⟩
        case measure => simp [intOf]; omega
    · have hjn : j = n := by omega
      have htk : rs.take j = rs := List.take_of_length_le (by have := H.out.len; omega)
      rw [htk] at HNO
      clear htk hjn
      go_wp2_with fail
      go_ret
      exact ⟨⟨-1, rfl, .inl ⟨rfl, HNO.out⟩⟩, rfl⟩
end Go.Proofs.Ytapiaaffnhmmiaa

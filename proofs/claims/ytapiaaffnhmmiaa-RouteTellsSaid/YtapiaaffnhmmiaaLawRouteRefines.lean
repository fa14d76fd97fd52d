/- RouteRefines: its walk. -/
import Derived.Test.YtapiaaffnhmmiaaRtPlain
import Derived.Test.YtapiaaffnhmmiaaRt7
import Derived.Test.YtapiaaffnhmmiaaLawRouteCuts
namespace Go.Proofs.Ytapiaaffnhmmiaa
open Go.RowKit
set_option linter.unusedVariables false
set_option linter.unusedSimpArgs false

theorem i64_mask5 (n : Int) : bits .and .i64 n 31 = n % 32 := by
  have hx : (BitVec.ofInt 64 n &&& BitVec.ofInt 64 31).toNat = (n % 32).toNat := by
    rw [BitVec.toNat_and, BitVec.toNat_ofInt, BitVec.toNat_ofInt]
    rw [show ((31 : Int) % ((2 ^ 64 : Nat) : Int)).toNat = 2 ^ 5 - 1 from by decide, Nat.and_two_pow_sub_one_eq_mod]
    omega
  show IntKind.i64.wrap ((BitVec.ofInt 64 n &&& BitVec.ofInt 64 31).toNat : Int) = _
  rw [hx, IntKind.wrap_i64]
  omega

def rx (d a : Int) : Rt := ⟨cutN d a, a, 0, 1⟩
def ry (d b : Int) : Rt := ⟨cutN d b, b, 0, 2⟩
def rlx (d a : Int) : RL := [((cutN d a, a), rx d a)]
def rlxy (d a b : Int) : RL := [((cutN d a, a), rx d a), ((cutN d b, b), ry d b)]
theorem rx_add (d a : Int) (h0 : 0 ≤ a) (h1 : a ≤ 32) : addCode [] (rx d a) = 0 ∧ addTo [] (rx d a) = rlx d a := by
  have e : addCode [] (rx d a) = 0 := by
    unfold addCode
    rw [if_neg (by simp [rx, cutN_self]; omega), if_neg (by simp)]
  exact ⟨e, by unfold addTo; rw [if_pos e]; rfl⟩
theorem ry_add (d a b : Int) (h0 : 0 ≤ b) (h1 : b ≤ 32) (hab : a < b) : addCode (rlx d a) (ry d b) = 0 ∧ addTo (rlx d a) (ry d b) = rlxy d a b := by
  have hne : ¬ ((cutN d a, a) = (cutN d b, b)) := by simp; omega
  have hg : mget (rlx d a) (cutN d b, b) = none := by
    rw [mget_none]; intro p hp; simp [rlx] at hp; subst hp; exact hne
  have e : addCode (rlx d a) (ry d b) = 0 := by
    unfold addCode
    rw [if_neg (by simp [ry, cutN_self]; omega), if_neg (by simp [rlx])]
  refine ⟨e, ?_⟩
  unfold addTo
  rw [if_pos e]
  show mput (rlx d a) (cutN d b, b) (ry d b) = _
  unfold mput
  rw [hg]
  rfl
theorem rx_ok (d a : Int) (hd0 : 0 ≤ d) (hd1 : d < 4294967296) (h0 : 0 ≤ a) (h1 : a ≤ 32) : (rx d a).ok := by
  have := cutN_bd d a hd0 hd1
  unfold Rt.ok rx; simp only; omega
theorem ry_ok (d a : Int) (hd0 : 0 ≤ d) (hd1 : d < 4294967296) (h0 : 0 ≤ a) (h1 : a ≤ 32) : (ry d a).ok := by
  have := cutN_bd d a hd0 hd1
  unfold Rt.ok ry; simp only; omega
/-- What is found with both. -/
theorem refines_find (d a b ip : Int) (hd0 : 0 ≤ d) (hd1 : d < 4294967296) (h0 : 0 ≤ a) (hab : a < b) (h1 : b ≤ 32) :
    findN (rlxy d a b) ip 33 = if cutN ip b = cutN d b then some (ry d b) else if cutN ip a = cutN d a then some (rx d a) else none := by
  have g1 := Good.nil.add (rx d a) (rx_ok d a hd0 hd1 h0 (by omega))
  rw [(rx_add d a h0 (by omega)).2] at g1
  have g := g1.add (ry d b) (ry_ok d b hd0 hd1 (by omega) h1)
  rw [(ry_add d a b (by omega) h1 hab).2] at g
  have hv : (rlxy d a b).map (·.2) = [rx d a, ry d b] := rfl
  split
  · rename_i h
    rw [g.find_some, hv]
    refine ⟨by simp, h, fun r' hr' _ => ?_⟩
    simp at hr'
    rcases hr' with rfl | rfl <;> simp [rx, ry]; omega
  · rename_i h
    split
    · rename_i h2
      rw [g.find_some, hv]
      refine ⟨by simp, h2, fun r' hr' hc => ?_⟩
      simp at hr'
      rcases hr' with rfl | rfl
      · simp
      · exact absurd hc h
    · rename_i h2
      rw [g.find_none, hv]
      intro r' hr'
      simp at hr'
      rcases hr' with rfl | rfl
      · exact h2
      · exact h
theorem narrow_wide {d a b ip : Int} (hab : a < b) (h : cutN ip b = cutN d b) : cutN ip a = cutN d a := by
  have e1 : cutN (cutN ip b) a = cutN ip a := by rw [cutN_two]; congr 1; omega
  have e2 : cutN (cutN d b) a = cutN d a := by rw [cutN_two]; congr 1; omega
  rw [← e1, ← e2, h]

set_option maxRecDepth 100000 in
set_option maxHeartbeats 1000000 in
theorem RouteRefines_walk (d a0 b0 ip : Int) (hd0 : 0 ≤ d) (hd1 : d < 4294967296) (h0 : 0 ≤ ip) (h1 : ip < 4294967296) (w : World) :
    Calls Try.prog 8 #[.int .u32 d, .int .i64 a0, .int .i64 b0, .int .u32 ip] w (ShownP w) := by
  obtain ⟨a, ha⟩ : ∃ a, bits .and .i64 a0 31 = a := ⟨_, rfl⟩
  obtain ⟨c, hc⟩ : ∃ c, bits .and .i64 b0 31 = c := ⟨_, rfl⟩
  have ha2 : 0 ≤ a ∧ a ≤ 31 := by have := i64_mask5 a0; omega
  have hc2 : 0 ≤ c ∧ c ≤ 31 := by have := i64_mask5 b0; omega
  obtain ⟨m, hm⟩ : ∃ m, c % (32 - a) = m := ⟨_, rfl⟩
  have hm2 : 0 ≤ m ∧ m < 32 - a := ⟨by rw [← hm]; exact Int.emod_nonneg _ (by omega), by rw [← hm]; exact Int.emod_lt_of_pos _ (by omega)⟩
  obtain ⟨b, hb⟩ : ∃ b, a + 1 + m = b := ⟨_, rfl⟩
  have hb2 : a < b ∧ b ≤ 32 := by omega
  obtain ⟨xd, hxd⟩ : ∃ xd, cutN d a = xd := ⟨_, rfl⟩
  obtain ⟨yd, hyd⟩ : ∃ yd, cutN d b = yd := ⟨_, rfl⟩
  obtain ⟨ca, hca⟩ : ∃ ca, cutN ip a = ca := ⟨_, rfl⟩
  obtain ⟨cb, hcb⟩ : ∃ cb, cutN ip b = cb := ⟨_, rfl⟩
  have hfind := refines_find d a b ip hd0 hd1 ha2.1 hb2.1 hb2.2
  have hfind2 := refines_find d a b d hd0 hd1 ha2.1 hb2.1 hb2.2
  have hnw : cb = yd → ca = xd := fun h => by rw [← hca, ← hxd]; exact narrow_wide hb2.1 (by rw [hcb, hyd]; exact h)
  rw [hcb, hyd, hca, hxd] at hfind
  rw [if_pos rfl] at hfind2
  have okx := rx_ok d a hd0 hd1 (by omega) (by omega)
  have oky := ry_ok d b hd0 hd1 (by omega) (by omega)
  have adx := rx_add d a (by omega) (by omega)
  have ady := ry_add d a b (by omega) (by omega) hb2.1
  simp only [rx, ry, rlx, rlxy, hxd, hyd] at okx oky adx ady hfind hfind2
  have XD := Lib.hid hxd
  have YD := Lib.hid hyd
  have CA := Lib.hid hca
  have CB := Lib.hid hcb
  have FI := Lib.hid hfind
  have FI2 := Lib.hid hfind2
  have NW := Lib.hid hnw
  have OKX := Lib.hid okx
  have OKY := Lib.hid oky
  have ADX := Lib.hid adx
  have ADY := Lib.hid ady
  clear hxd hyd hca hcb hfind hfind2 hnw okx oky adx ady
  go_enter Try.func8, Try.ntmps8
  go_wp2_with (first | (go_at_call 9; refine (l8shown_any _).mono ?_; rintro e w1 ⟨rfl, f1⟩; have F1 := Lib.hid f1; clear f1) | (go_at_call 10; refine (rtNew_any _).mono ?_; rintro e w2 ⟨rfl, t2, f2⟩; have T2 := Lib.hid t2; have F2 := Lib.hid f2; clear t2 f2))
  refine (rtCut_eq _ hd0 hd1 XD.out).mono ?_
  rintro e w3 ⟨rfl, rfl⟩
  go_wp2_with fail
  refine (rtCut_eq _ hd0 hd1 YD.out).mono ?_
  rintro e w3 ⟨rfl, rfl⟩
  go_wp2_with fail
  have T3 := Lib.hid (T2.out.no (((Fr.refl No w2).alloc (.cells #[.int .u32 xd, .int .i64 a, .int .u32 0, .int .i64 1] 33)).alloc (.cells #[.int .u32 yd, .int .i64 b, .int .u32 0, .int .i64 2] 33)))
  have F3 := Lib.hid (((F1.out.then_no F2.out).alloc (.cells #[.int .u32 xd, .int .i64 a, .int .u32 0, .int .i64 1] 33)).alloc (.cells #[.int .u32 yd, .int .i64 b, .int .u32 0, .int .i64 2] 33))
  have hx3 := ((Fr.refl No _).alloc (.cells #[.int .u32 yd, .int .i64 b, .int .u32 0, .int .i64 2] 33)).heap (heap_alloc_new w2 (.cells #[.int .u32 xd, .int .i64 a, .int .u32 0, .int .i64 1] 33)) (fun h => h)
  have hy3 := heap_alloc_new (w2.alloc (.cells #[.int .u32 xd, .int .i64 a, .int .u32 0, .int .i64 1] 33)) (.cells #[.int .u32 yd, .int .i64 b, .int .u32 0, .int .i64 2] 33)
  rw [show (w2.alloc (.cells #[.int .u32 xd, .int .i64 a, .int .u32 0, .int .i64 1] 33)).heap.size = w2.heap.size + 1 from by simp] at hy3
  generalize (w2.alloc (.cells #[.int .u32 xd, .int .i64 a, .int .u32 0, .int .i64 1] 33)).alloc (.cells #[.int .u32 yd, .int .i64 b, .int .u32 0, .int .i64 2] 33) = w3 at T3 F3 hx3 hy3 ⊢
  refine (rtAdd_any T3.out ⟨xd, a, 0, 1⟩ OKX.out (by decide) ADX.out.1 ADX.out.2).mono ?_
  rintro e w4 ⟨rfl, t4, f4⟩
  have ne1 : w2.heap.size ≠ w1.heap.size := by have := lt_of_heap T2.out.box; omega
  have ne2 : w2.heap.size + 1 ≠ w1.heap.size := by have := lt_of_heap T2.out.box; omega
  have hx4 := f4.heap hx3 (fun h : _ = _ => ne1 h)
  have hy4 := f4.heap hy3 (fun h : _ = _ => ne2 h)
  have T4 := Lib.hid t4
  have F4 := Lib.hid (F3.out.then f4 (by rintro i hi (rfl : i = _); have := F1.out.size; omega))
  have hc4 := cells4 hy4
  obtain ⟨y0, y1, y2, y3⟩ := hc4
  clear t4 f4 hx3 hy3 T3 F3
  have HX4 := Lib.hid hx4
  have HY4 := Lib.hid hy4
  clear hx4 hy4
  go_wp2_with fail
  refine (rtAdd_any T4.out ⟨yd, b, 0, 2⟩ OKY.out (by simp) ADY.out.1 ADY.out.2).mono ?_
  rintro e w5 ⟨rfl, t5, f5⟩
  have hx5 := f5.heap HX4.out (fun h : _ = _ => ne1 h)
  have hy5 := f5.heap HY4.out (fun h : _ = _ => ne2 h)
  have T5 := Lib.hid t5
  have F5 := Lib.hid (F4.out.then f5 (by rintro i hi (rfl : i = _); have := F1.out.size; omega))
  have HX5 := Lib.hid hx5
  have HY5 := Lib.hid hy5
  clear t5 f5 hx5 hy5 HX4 HY4 T4 F4 y0 y1 y2 y3
  go_wp2_with fail
  have hcase : ∃ (q : Rt) (k : Bool) (x : Option Rt), x.getD ⟨0, 0, 0, 0⟩ = q ∧ x.isSome = k ∧ findN [((xd, a), ⟨xd, a, 0, 1⟩), ((yd, b), ⟨yd, b, 0, 2⟩)] ip 33 = x ∧
      ((cb = yd ∧ ca = xd ∧ q = ⟨yd, b, 0, 2⟩ ∧ k = true) ∨ (cb ≠ yd ∧ ca = xd ∧ q = ⟨xd, a, 0, 1⟩ ∧ k = true) ∨ (cb ≠ yd ∧ ca ≠ xd ∧ q = ⟨0, 0, 0, 0⟩ ∧ k = false)) := by
    refine ⟨_, _, _, rfl, rfl, FI.out, ?_⟩
    by_cases h1 : cb = yd
    · exact .inl ⟨h1, NW.out h1, by rw [if_pos h1]; rfl, by rw [if_pos h1]; rfl⟩
    · by_cases h2 : ca = xd
      · exact .inr (.inl ⟨h1, h2, by rw [if_neg h1, if_pos h2]; rfl, by rw [if_neg h1, if_pos h2]; rfl⟩)
      · exact .inr (.inr ⟨h1, h2, by rw [if_neg h1, if_neg h2]; rfl, by rw [if_neg h1, if_neg h2]; rfl⟩)
  obtain ⟨⟨q0, q1, q2, q3⟩, k, x, hq, hk, hfx, hcs⟩ := hcase
  clear FI NW
  refine (rtFind_any T5.out h0 h1 hfx).mono ?_
  unfold FindP
  rw [hq, hk]
  simp only [evR]
  rintro e w6 ⟨rfl, f6⟩
  have T6 := Lib.hid (T5.out.no (f6.alloc (.cells #[.int .u32 q0, .int .i64 q1, .int .u32 q2, .int .i64 q3] 33)))
  have F6 := Lib.hid (F5.out.then_no (f6.alloc (.cells #[.int .u32 q0, .int .i64 q1, .int .u32 q2, .int .i64 q3] 33)))
  have hx6 := (f6.alloc (.cells #[.int .u32 q0, .int .i64 q1, .int .u32 q2, .int .i64 q3] 33)).heap HX5.out (fun h => h)
  have hy6 := (f6.alloc (.cells #[.int .u32 q0, .int .i64 q1, .int .u32 q2, .int .i64 q3] 33)).heap HY5.out (fun h => h)
  have hq6 := heap_alloc_new w6 (.cells #[.int .u32 q0, .int .i64 q1, .int .u32 q2, .int .i64 q3] 33)
  clear f6 T5 F5 HX5 HY5 hq hk hfx
  go_wp2_with fail
  generalize w6.heap.size = b6 at hq6 ⊢
  generalize w6.alloc (.cells #[.int .u32 q0, .int .i64 q1, .int .u32 q2, .int .i64 q3] 33) = w7 at T6 F6 hx6 hy6 hq6 ⊢
  obtain ⟨x0, x1, x2, x3⟩ := cells4 hx6
  obtain ⟨y0, y1, y2, y3⟩ := cells4 hy6
  obtain ⟨z0, z1, z2, z3⟩ := cells4 hq6
  have HX6 := Lib.hid hx6
  have HY6 := Lib.hid hy6
  have HQ6 := Lib.hid hq6
  have HCS := Lib.hid hcs
  clear hx6 hy6 hq6 hcs
  go_quiet ((go_at_call 19; exact rtCut_q _ _ h0 h1 CA.out))
  go_wp2_with fail
  generalize hw8 : World.drewN _ _ = w8
  have hx8 : w8.heap[w2.heap.size]? = some (.cells #[.int .u32 xd, .int .i64 a, .int .u32 0, .int .i64 1] 33 (0, 0)) := by rw [← hw8]; exact HX6.out
  have hy8 : w8.heap[w2.heap.size + 1]? = some (.cells #[.int .u32 yd, .int .i64 b, .int .u32 0, .int .i64 2] 33 (0, 0)) := by rw [← hw8]; exact HY6.out
  have hq8 : w8.heap[b6]? = some (.cells #[.int .u32 q0, .int .i64 q1, .int .u32 q2, .int .i64 q3] 33 (0, 0)) := by rw [← hw8]; exact HQ6.out
  have F8 : Hid (Fr No w w8) := Lib.hid (by rw [← hw8]; exact F6.out.drewN _)
  have T8 : Hid (RTb w8 (w1.heap.size + 1) w1.heap.size [((xd, a), ⟨xd, a, 0, 1⟩), ((yd, b), ⟨yd, b, 0, 2⟩)]) := Lib.hid (by rw [← hw8]; exact T6.out.no ((Fr.refl _ _).drewN _))
  clear hw8 HX6 HY6 HQ6 F6 T6 x0 x1 x2 x3 y0 y1 y2 y3 z0 z1 z2 z3
  obtain ⟨x0, x1, x2, x3⟩ := cells4 hx8
  obtain ⟨y0, y1, y2, y3⟩ := cells4 hy8
  have HX8 := Lib.hid hx8
  have HY8 := Lib.hid hy8
  have HQ8 := Lib.hid hq8
  clear hx8 hy8 hq8
  go_quiet ((go_at_call 19; exact rtCut_q _ _ h0 h1 CB.out))
  generalize hw9 : World.drewN _ _ = w9
  have hy9 : w9.heap[w2.heap.size + 1]? = some (.cells #[.int .u32 yd, .int .i64 b, .int .u32 0, .int .i64 2] 33 (0, 0)) := by rw [← hw9]; exact HY8.out
  have hq9 : w9.heap[b6]? = some (.cells #[.int .u32 q0, .int .i64 q1, .int .u32 q2, .int .i64 q3] 33 (0, 0)) := by rw [← hw9]; exact HQ8.out
  have F9 : Hid (Fr No w w9) := Lib.hid (by rw [← hw9]; exact F8.out.drewN _)
  have T9 : Hid (RTb w9 (w1.heap.size + 1) w1.heap.size [((xd, a), ⟨xd, a, 0, 1⟩), ((yd, b), ⟨yd, b, 0, 2⟩)]) := Lib.hid (by rw [← hw9]; exact T8.out.no ((Fr.refl _ _).drewN _))
  have HY9 := Lib.hid hy9
  have HQ9 := Lib.hid hq9
  clear hw9 HX8 HY8 HQ8 F8 T8 x0 x1 x2 x3 y0 y1 y2 y3 hy9 hq9
  have hbs : ((cb == yd) = true ∧ (ca == xd) = true ∧ q3 = 2 ∧ k = true) ∨ ((cb == yd) = false ∧ (ca == xd) = true ∧ q3 = 1 ∧ k = true) ∨ ((cb == yd) = false ∧ (ca == xd) = false ∧ q3 = 0 ∧ k = false) := by
    rcases HCS.out with ⟨h1, h2, h3, h4⟩ | ⟨h1, h2, h3, h4⟩ | ⟨h1, h2, h3, h4⟩ <;> simp only [Rt.mk.injEq] at h3
    · exact .inl ⟨by simpa using h1, by simpa using h2, h3.2.2.2, h4⟩
    · exact .inr (.inl ⟨by simpa using h1, by simpa using h2, h3.2.2.2, h4⟩)
    · exact .inr (.inr ⟨by simpa using h1, by simpa using h2, h3.2.2.2, h4⟩)
  clear HCS
  generalize (cb == yd) = nb at hbs ⊢
  generalize (ca == xd) = wb at hbs ⊢
  clear CA CB XD YD OKX OKY ADX ADY ha hc hm hb
  rcases hbs with ⟨rfl, rfl, rfl, rfl⟩ | ⟨rfl, rfl, rfl, rfl⟩ | ⟨rfl, rfl, rfl, rfl⟩
  all_goals
    go_wp2_with fail
    refine (rtFind_any T9.out hd0 hd1 FI2.out).mono ?_
    rintro e w10 ⟨rfl, f10⟩
    have fb := f10.alloc (.cells #[.int .u32 yd, .int .i64 b, .int .u32 0, .int .i64 2] 33)
    have F10 := Lib.hid (F9.out.then_no fb)
    obtain ⟨y0, y1, y2, y3⟩ := cells4 (fb.heap HY9.out (fun h => h))
    obtain ⟨z0, z1, z2, z3⟩ := cells4 (fb.heap HQ9.out (fun h => h))
    obtain ⟨u0, u1, u2, u3⟩ := cells4 (heap_alloc_new w10 (.cells #[.int .u32 yd, .int .i64 b, .int .u32 0, .int .i64 2] 33))
    clear fb f10 T9 F9 HY9 HQ9
    simp only [Option.getD_some, Option.isSome_some, evR]
    go_wp2_with fail
    go_ret
    exact ⟨rfl, F10.out⟩
end Go.Proofs.Ytapiaaffnhmmiaa

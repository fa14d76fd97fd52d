/- route: comparisons. -/
import Derived.Test.YtapiaaffnhmmiaaRt2
import Derived.StillTailTactics
import Derived.Shelf.SlSortCmp.WholeK
import Derived.Shelf.SlSortCmp.NoneTotal
namespace Go.Proofs.Ytapiaaffnhmmiaa
open Go.RowKit
set_option linter.unusedVariables false
set_option linter.unusedSimpArgs false

def cmpZ (x y : Int) : Int := if x < y then -1 else if y < x then 1 else 0

theorem nanIP_any (x : Int) (w : World) : Calls Try.prog 33 #[.int .u32 x] w fun e w' => e = .returned (.bool false) ∧ w = w' := by
  go_enter Try.func33, Try.ntmps33
  go_wp2
  go_ret
  exact ⟨rfl, rfl⟩
theorem nanInt_any (x : Int) (w : World) : Calls Try.prog 34 #[.int .i64 x] w fun e w' => e = .returned (.bool false) ∧ w = w' := by
  go_enter Try.func34, Try.ntmps34
  go_wp2
  go_ret
  exact ⟨rfl, rfl⟩
theorem cmpIP_any (x y : Int) (w : World) : Calls Try.prog 28 #[.int .u32 x, .int .u32 y] w fun e w' => e = .returned (.int .i64 (cmpZ x y)) ∧ w = w' := by
  have H : ∀ z, cmpZ x y = z → Hid (cmpZ x y = z) := fun _ h => Lib.hid h
  by_cases h1 : x < y
  · have h := H (-1) (by unfold cmpZ; rw [if_pos h1])
    clear H
    go_enter Try.func28, Try.ntmps28
    go_wp2_with (first | (go_at_call 33; refine (nanIP_any _ _).mono ?_; rintro e w1 ⟨rfl, rfl⟩))
    go_ret
    rw [h.out]; exact ⟨rfl, rfl⟩
  · by_cases h2 : y < x
    · have h := H 1 (by unfold cmpZ; rw [if_neg h1, if_pos h2])
      clear H
      go_enter Try.func28, Try.ntmps28
      go_wp2_with (first | (go_at_call 33; refine (nanIP_any _ _).mono ?_; rintro e w1 ⟨rfl, rfl⟩))
      go_ret
      rw [h.out]; exact ⟨rfl, rfl⟩
    · have h := H 0 (by unfold cmpZ; rw [if_neg h1, if_neg h2])
      clear H
      go_enter Try.func28, Try.ntmps28
      go_wp2_with (first | (go_at_call 33; refine (nanIP_any _ _).mono ?_; rintro e w1 ⟨rfl, rfl⟩))
      go_ret
      rw [h.out]; exact ⟨rfl, rfl⟩
theorem cmpInt_any (x y : Int) (w : World) : Calls Try.prog 29 #[.int .i64 x, .int .i64 y] w fun e w' => e = .returned (.int .i64 (cmpZ x y)) ∧ w = w' := by
  have H : ∀ z, cmpZ x y = z → Hid (cmpZ x y = z) := fun _ h => Lib.hid h
  by_cases h1 : x < y
  · have h := H (-1) (by unfold cmpZ; rw [if_pos h1])
    clear H
    go_enter Try.func29, Try.ntmps29
    go_wp2_with (first | (go_at_call 34; refine (nanInt_any _ _).mono ?_; rintro e w1 ⟨rfl, rfl⟩))
    go_ret
    rw [h.out]; exact ⟨rfl, rfl⟩
  · by_cases h2 : y < x
    · have h := H 1 (by unfold cmpZ; rw [if_neg h1, if_pos h2])
      clear H
      go_enter Try.func29, Try.ntmps29
      go_wp2_with (first | (go_at_call 34; refine (nanInt_any _ _).mono ?_; rintro e w1 ⟨rfl, rfl⟩))
      go_ret
      rw [h.out]; exact ⟨rfl, rfl⟩
    · have h := H 0 (by unfold cmpZ; rw [if_neg h1, if_neg h2])
      clear H
      go_enter Try.func29, Try.ntmps29
      go_wp2_with (first | (go_at_call 34; refine (nanInt_any _ _).mono ?_; rintro e w1 ⟨rfl, rfl⟩))
      go_ret
      rw [h.out]; exact ⟨rfl, rfl⟩

/-- The first one that is not zero. -/
def orL : List Int → Int
  | [] => 0
  | x :: r => if x = 0 then orL r else x
theorem orL_drop {l : List Int} {k : Nat} (h : k < l.length) : orL (l.drop k) = if l.getD k 0 = 0 then orL (l.drop (k + 1)) else l.getD k 0 := by
  rw [List.drop_eq_getElem_cons h]
  simp [orL, h]
theorem cmpOr_any (zs : List Int) (a : Addr) (c : Nat) (w : World) (hc : ∀ i, i < zs.length → w.cell? (a.add i) = some (.int .i64 (zs[i]?.getD 0))) (hl : zs.length ≤ 1000) :
    Calls Try.prog 27 #[.slice (some a) zs.length c] w fun e w' => e = .returned (.int .i64 (orL zs)) ∧ w = w' := by
  go_enter Try.func27, Try.ntmps27
  go_wp2
  go_loop [5, 8] (fun _ i => ∃ k : Nat, k ≤ zs.length ∧ i = .int .i64 k ∧ orL (zs.drop k) = orL zs) (fun _ i => zs.length - (intOf i).toNat)
  case atStart => exact ⟨0, Nat.zero_le _, rfl, rfl⟩
  case round =>
    obtain ⟨k, hk, rfl, ho⟩ := hrel
    have HO := Lib.hid ho
    clear ho
    by_cases hlt : k < zs.length
    · have hcell := hc k hlt
      have hs := orL_drop hlt
      have HS := Lib.hid hs
      have HC := Lib.hid hc
      clear hs hc
      obtain ⟨z, hz⟩ : ∃ z, zs[k]?.getD 0 = z := ⟨_, rfl⟩
      rw [hz] at hcell
      have HZ := Lib.hid hz
      clear hz
      by_cases h0 : z = 0
      · subst h0
        go_wp2
        go_round
        case rel => exact ⟨k + 1, by omega, by go_num, by have e := HS.out; rw [HO.out] at e; rw [e, if_pos (by simpa using HZ.out)]⟩
        case measure => simp [intOf]; omega
      · go_wp2
        go_ret
        refine ⟨?_, rfl⟩
        have e := HS.out
        rw [HO.out] at e
        have hg : zs.getD k 0 = z := by simpa using HZ.out
        rw [e, hg, if_neg h0]
        rfl
    · have e0 : orL zs = 0 := by rw [← HO.out, List.drop_of_length_le (by omega)]; rfl
      have E0 := Lib.hid e0
      clear e0 HO hc
      go_wp2
      go_ret
      rw [E0.out]
      exact ⟨rfl, rfl⟩

def cmpR (x y : Rt) : Int := orL [cmpZ x.dst y.dst, cmpZ x.bits y.bits]

set_option maxRecDepth 100000 in
set_option maxHeartbeats 1000000 in
theorem rtListF_at (x y : Rt) {r : Int} (hr : cmpR x y = r) (w : World) : Calls Try.prog 26 #[evR x, evR y] w fun e w' => e = .returned (.int .i64 r) ∧ ∃ q os', w' = Go.Sort.grow (w.drewN q) os' := by
  obtain ⟨a, b, c, d⟩ := x
  obtain ⟨a', b', c', d'⟩ := y
  unfold evR
  simp only
  have HR : Hid (orL [cmpZ a a', cmpZ b b'] = r) := Lib.hid hr
  clear hr
  go_enter Try.func26, Try.ntmps26
  go_wp2
  have HC := Lib.hid (fun W => cmpIP_any a a' W)
  have HD := Lib.hid (fun W => cmpInt_any b b' W)
  have hg : ∃ os, (w.alloc (.cells #[.int .u32 a, .int .i64 b, .int .u32 c, .int .i64 d] 33)).alloc (.cells #[.int .u32 a', .int .i64 b', .int .u32 c', .int .i64 d'] 33) = Go.Sort.grow w os := ⟨_, by rw [Go.Sort.alloc_eq_grow, Go.Sort.alloc_eq_grow, Go.Sort.grow_grow]⟩
  have h1 := (Fr.refl No (w.alloc (.cells #[.int .u32 a, .int .i64 b, .int .u32 c, .int .i64 d] 33))).alloc (.cells #[.int .u32 a', .int .i64 b', .int .u32 c', .int .i64 d'] 33) |>.heap (heap_alloc_new w _) (fun h => h)
  have h2 := heap_alloc_new (w.alloc (.cells #[.int .u32 a, .int .i64 b, .int .u32 c, .int .i64 d] 33)) (.cells #[.int .u32 a', .int .i64 b', .int .u32 c', .int .i64 d'] 33)
  rw [show (w.alloc (.cells #[.int .u32 a, .int .i64 b, .int .u32 c, .int .i64 d] 33)).heap.size = w.heap.size + 1 from by simp] at h2
  generalize World.alloc _ _ = wv at hg h1 h2 ⊢
  have c1 := cell_of_row wv _ 0 _ _ _ h1
  have c2 := cell_of_row wv _ 1 _ _ _ h1
  have c3 := cell_of_row wv _ 0 _ _ _ h2
  have c4 := cell_of_row wv _ 1 _ _ _ h2
  simp only [List.getElem?_toArray, List.getElem?_cons_zero, List.getElem?_cons_succ] at c1 c2 c3 c4
  clear h1 h2
  have HG := Lib.hid hg
  clear hg
  go_still_tail 10, (by kernel_rfl)
  still_call ((HC.out _).mono fun _ _ ⟨he, hw⟩ => ⟨he, hw.symm⟩)
  repeat still_step
  still_call ((HD.out _).mono fun _ _ ⟨he, hw⟩ => ⟨he, hw.symm⟩)
  repeat still_step
  try refine wpStill_nil ?_
  change wpList _ _ _ _ _ wv.drew
  clear c1 c2 c3 c4 HC HD
  generalize cmpZ a a' = r1 at HR ⊢
  generalize cmpZ b b' = r2 at HR ⊢
  have hb := heap_alloc_new wv.drew (.cells #[.int .i64 r1, .int .i64 r2] 3)
  have HO := Lib.hid (cmpOr_any [r1, r2] ⟨wv.drew.heap.size, 0, none⟩ 2 (wv.drew.alloc (.cells #[.int .i64 r1, .int .i64 r2] 3)) (by
    intro i hi
    rw [show (⟨wv.drew.heap.size, 0, none⟩ : Addr).add i = ⟨wv.drew.heap.size, i, none⟩ from by rw [Addr.add_lit, Nat.zero_add], cell_of_row _ _ i _ _ _ hb]
    simp at hi
    rcases (by omega : i = 0 ∨ i = 1) with rfl | rfl <;> rfl) (by simp))
  rw [HR.out] at HO
  clear hb
  go_wp2_with (go_at_call 27; refine Calls.mono HO.out ?_; rintro e w' ⟨rfl, rfl⟩)
  go_ret
  obtain ⟨os, hos⟩ := HG.out
  refine ⟨rfl, 1, os ++ #[.cells #[.int .i64 r1, .int .i64 r2] 3], ?_⟩
  rw [hos]
  show ((Go.Sort.grow w os).drew).alloc _ = _
  rw [Go.Sort.alloc_eq_grow, show (Go.Sort.grow w os).drew = Go.Sort.grow (w.drewN 1) os from rfl, Go.Sort.grow_grow]

theorem rtListF_any (x y : Rt) (w : World) : Calls Try.prog 26 #[evR x, evR y] w fun e w' => e = .returned (.int .i64 (cmpR x y)) ∧ ∃ q os', w' = Go.Sort.grow (w.drewN q) os' := rtListF_at x y rfl w

/-! ### the sort -/
def encR (r : Rt) : List Value := [.int .u32 r.dst, .int .i64 r.bits, .int .u32 r.via, .int .i64 r.out]
theorem cmpLaysR (blk off size : Nat) (w : World) : Go.Proofs.CmpLays Try.prog 26 #[] encR 4 cmpR blk off size w :=
  fun _ _ _ _ x y => rtListF_any x y _
theorem cmpZ_cases (x y : Int) : (x < y ∧ cmpZ x y = -1) ∨ (x = y ∧ cmpZ x y = 0) ∨ (y < x ∧ cmpZ x y = 1) := by
  unfold cmpZ
  by_cases h1 : x < y
  · exact .inl ⟨h1, by rw [if_pos h1]⟩
  · by_cases h2 : y < x
    · exact .inr (.inr ⟨h2, by rw [if_neg h1, if_pos h2]⟩)
    · exact .inr (.inl ⟨by omega, by rw [if_neg h1, if_neg h2]⟩)
def ltR (x y : Rt) : Bool := decide (x.dst < y.dst ∨ (x.dst = y.dst ∧ x.bits < y.bits))
theorem cmpR_neg (x y : Rt) : decide (cmpR x y < 0) = ltR x y := by
  unfold cmpR ltR orL orL
  rcases cmpZ_cases x.dst y.dst with ⟨h, e⟩ | ⟨h, e⟩ | ⟨h, e⟩ <;> rcases cmpZ_cases x.bits y.bits with ⟨h', e'⟩ | ⟨h', e'⟩ | ⟨h', e'⟩ <;> rw [e, e'] <;> simp [orL] <;> omega

end Go.Proofs.Ytapiaaffnhmmiaa

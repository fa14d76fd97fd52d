/- fdb: compare. -/
import Derived.Test.YticebdoiahadoaaFd13
import Derived.StillTailTactics
namespace Go.Proofs.Yticebdoiahadoaa
open Go.RowKit
set_option linter.unusedVariables false
set_option linter.unusedSimpArgs false

def cmpZ (x y : Int) : Int := if x < y then -1 else if y < x then 1 else 0

theorem nanU64_any (x : Int) (w : World) : Calls Try.prog 115 #[.int .u64 x] w fun e w' => e = .returned (.bool false) ∧ w = w' := by
  go_enter Try.func115, Try.ntmps115
  go_wp2
  go_ret
  exact ⟨rfl, rfl⟩
theorem cmpU64_any (x y : Int) (w : World) : Calls Try.prog 112 #[.int .u64 x, .int .u64 y] w fun e w' => e = .returned (.int .i64 (cmpZ x y)) ∧ w = w' := by
  have H : ∀ z, cmpZ x y = z → Hid (cmpZ x y = z) := fun _ h => Lib.hid h
  by_cases h1 : x < y
  · have h := H (-1) (by unfold cmpZ; rw [if_pos h1])
    clear H
    go_enter Try.func112, Try.ntmps112
    go_wp2_with (first | (go_at_call 115; refine (nanU64_any _ _).mono ?_; rintro e w1 ⟨rfl, rfl⟩))
    go_ret
    rw [h.out]; exact ⟨rfl, rfl⟩
  · by_cases h2 : y < x
    · have h := H 1 (by unfold cmpZ; rw [if_neg h1, if_pos h2])
      clear H
      go_enter Try.func112, Try.ntmps112
      go_wp2_with (first | (go_at_call 115; refine (nanU64_any _ _).mono ?_; rintro e w1 ⟨rfl, rfl⟩))
      go_ret
      rw [h.out]; exact ⟨rfl, rfl⟩
    · have h := H 0 (by unfold cmpZ; rw [if_neg h1, if_neg h2])
      clear H
      go_enter Try.func112, Try.ntmps112
      go_wp2_with (first | (go_at_call 115; refine (nanU64_any _ _).mono ?_; rintro e w1 ⟨rfl, rfl⟩))
      go_ret
      rw [h.out]; exact ⟨rfl, rfl⟩
/-- The first one that is not zero. -/
def orL : List Int → Int
  | [] => 0
  | x :: r => if x = 0 then orL r else x
theorem orL_drop {l : List Int} {k : Nat} (h : k < l.length) : orL (l.drop k) = if l.getD k 0 = 0 then orL (l.drop (k + 1)) else l.getD k 0 := by
  rw [List.drop_eq_getElem_cons h]
  simp [orL, h]
theorem cmpOr_any (zs : List Int) (a : Addr) (c : Nat) (w : World) (hc : ∀ i, i < zs.length → w.cell? (a.add i) = some (.int .i64 (zs[i]?.getD 0))) (hl : zs.length ≤ 1000) :
    Calls Try.prog 111 #[.slice (some a) zs.length c] w fun e w' => e = .returned (.int .i64 (orL zs)) ∧ w = w' := by
  go_enter Try.func111, Try.ntmps111
  go_wp2
  go_loop [5, 8] (fun _ i => ∃ k : Nat, k ≤ zs.length ∧ i = .int .i64 k ∧ orL (zs.drop k) = orL zs) (fun _ i => zs.length - (intOf i).toNat)
  case atStart => exact ⟨0, Nat.zero_le _, rfl, rfl⟩
  case round =>
    obtain ⟨k, hk, rfl, ho⟩ := hrel
    have HO := Lib.hid ho
    clear ho
    by_cases hlt : k < zs.length
    · have hcell := hc k hlt
      have hs := orL_drop hlt
      have HS := Lib.hid hs
      have HC := Lib.hid hc
      clear hs hc
      obtain ⟨z, hz⟩ : ∃ z, zs[k]?.getD 0 = z := ⟨_, rfl⟩
      rw [hz] at hcell
      have HZ := Lib.hid hz
      clear hz
      by_cases h0 : z = 0
      · subst h0
        go_wp2
        go_round
        case rel => exact ⟨k + 1, by omega, by go_num, by have e := HS.out; rw [HO.out] at e; rw [e, if_pos (by simpa using HZ.out)]⟩
        case measure => simp [intOf]; omega
      · go_wp2
        go_ret
        refine ⟨?_, rfl⟩
        have e := HS.out
        rw [HO.out] at e
        have hg : zs.getD k 0 = z := by simpa using HZ.out
        rw [e, hg, if_neg h0]
        rfl
    · have e0 : orL zs = 0 := by rw [← HO.out, List.drop_of_length_le (by omega)]; rfl
      have E0 := Lib.hid e0
      clear e0 HO hc
      go_wp2
      go_ret
      rw [E0.out]
      exact ⟨rfl, rfl⟩


def cmpA (x y : En) : Int := orL [cmpZ x.at_ y.at_, cmpM x.mac y.mac]
set_option maxRecDepth 100000 in
set_option maxHeartbeats 1000000 in
theorem fbCompare_any {w : World} {b c : Nat} {x y : En} (hx : EnAt w b x) (hy : EnAt w c y) {r : Int} (hr : cmpA x y = r) : Calls Try.prog 99 #[evP b, evP c] w fun e w' => e = .returned (.int .i64 r) ∧ Fr No w w' := by
  obtain ⟨c0, -, -, -, -, -, -, -, c8, -⟩ := hx.cells
  obtain ⟨d0, -, -, -, -, -, -, -, d8, -⟩ := hy.cells
  have HR : Hid (orL [cmpZ x.at_ y.at_, cmpM x.mac y.mac] = r) := Lib.hid hr
  have B1 := Lib.hid (enBs hx)
  have B2 := Lib.hid (enBs hy)
  have HC := Lib.hid (fun W => cmpU64_any x.at_ y.at_ W)
  have HD := Lib.hid (bCompare_any (B1.out.no (Fr.refl No w).drew) (B2.out.no (Fr.refl No w).drew))
  clear hr hx hy
  unfold evP
  go_enter Try.func99, Try.ntmps99
  go_wp2_with fail
  go_still_tail 18, (by kernel_rfl)
  still_call ((HC.out _).mono fun _ _ ⟨he, hw⟩ => ⟨he, hw.symm⟩)
  repeat still_step
  still_call (HD.out.mono fun _ _ ⟨he, hw⟩ => ⟨he, hw⟩)
  repeat still_step
  try refine wpStill_nil ?_
  change wpList _ _ _ _ _ w.drew
  have HRR : Hid (orL [cmpZ x.at_ y.at_, Lib.compareBytes (macL x.mac) (macL y.mac)] = r) := HR
  clear c0 c8 d0 d8 HC HD B1 B2 HR
  generalize cmpZ x.at_ y.at_ = r1 at HRR ⊢
  generalize Lib.compareBytes (macL x.mac) (macL y.mac) = r2 at HRR ⊢
  have hb := heap_alloc_new w.drew (.cells #[.int .i64 r1, .int .i64 r2] 3)
  have HO := Lib.hid (cmpOr_any [r1, r2] ⟨w.drew.heap.size, 0, none⟩ 2 (w.drew.alloc (.cells #[.int .i64 r1, .int .i64 r2] 3)) (by
    intro i hi
    rw [show (⟨w.drew.heap.size, 0, none⟩ : Addr).add i = ⟨w.drew.heap.size, i, none⟩ from by rw [Addr.add_lit, Nat.zero_add], cell_of_row _ _ i _ _ _ hb]
    simp at hi
    rcases (by omega : i = 0 ∨ i = 1) with rfl | rfl <;> rfl) (by simp))
  rw [HRR.out] at HO
  clear hb
  go_wp2_with (go_at_call 111; refine Calls.mono HO.out ?_; rintro e w' ⟨rfl, rfl⟩)
  go_ret
  exact ⟨rfl, ((Fr.refl No w).drew).alloc _⟩
end Go.Proofs.Yticebdoiahadoaa

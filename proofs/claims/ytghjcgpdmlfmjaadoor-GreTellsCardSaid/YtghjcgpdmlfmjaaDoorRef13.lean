/- The reference of layers 02 and 13: fold, Sum, four. -/
import Derived.Test.YtghjcgpdmlfmjaaDoorRef11b
import Derived.Test.YtghjcgpdmlfmjaaDoorSum
import Derived.Deep.RegionHeld3
import Derived.Deep.RegionWith
import Derived.StillTailTactics
import Derived.Deep.DeepCutAuto
namespace Go.Proofs.YtghjcgpdmlfmjaaDoor
open Go.RowKit
set_option linter.unusedVariables false

theorem ref02Fold_any (n : Nat) (hn : n < 4294967296) (w : World) : Calls Tryd.prog 51 #[.int .i64 n] w fun e w' => e = .returned (.int .u16 (fold n)) ∧ w = w' := by
  go_enter Tryd.func51, Tryd.ntmps51
  go_wp2
  go_loop [0] (fun t => ∃ m : Nat, m < 4294967296 ∧ fold m = fold n ∧ t = .int .i64 m) (fun t => (intOf t).toNat)
  case atStart => exact ⟨n, hn, rfl, rfl⟩
  case round =>
    obtain ⟨m, hm, he, rfl⟩ := hrel
    have HE := Lib.hid he
    clear he
    by_cases hlt : m < 65536
    · go_wp2
      go_ret
      exact ⟨by rw [← HE.out, fold_small hlt]; rfl, rfl⟩
    · go_wp2
      go_round
      case rel => exact ⟨m % 65536 + m / 65536, by omega, by rw [← HE.out, fold_next hlt], by go_num⟩
      case measure => simp [intOf]; omega

/-- The text, made even. -/
def even (bs : List UInt8) : List UInt8 := if bs.length % 2 = 1 then bs ++ [0] else bs
theorem even_len (bs : List UInt8) : (even bs).length % 2 = 0 ∧ bs.length ≤ (even bs).length ∧ (even bs).length ≤ bs.length + 1 := by
  unfold even; split
  · rw [List.length_append, List.length_singleton]; omega
  · omega
theorem wsum_even (bs : List UInt8) : wsum true (even bs) = wsum true bs := by
  unfold even
  split
  · rw [wsum_snoc]; simp
  · rfl
theorem hiAt_even (k : Nat) : hiAt true (2 * k) = true ∧ hiAt true (2 * k + 1) = false := by
  induction k with
  | zero => exact ⟨rfl, rfl⟩
  | succ k ih =>
    have e1 : 2 * (k + 1) = 2 * k + 1 + 1 := by omega
    have h1 : hiAt true (2 * (k + 1)) = true := by rw [e1, hiAt_succ, ih.2]; rfl
    exact ⟨h1, by rw [hiAt_succ, h1]; rfl⟩
theorem wsum_pair {l : List UInt8} {k : Nat} {a b : UInt8} (ha : l[2 * k]? = some a) (hb : l[2 * k + 1]? = some b) : wsum true (l.take (2 * (k + 1))) = wsum true (l.take (2 * k)) + a.toNat * 256 + b.toNat := by
  have h1 := (List.getElem?_eq_some_iff.1 hb).1
  rw [show 2 * (k + 1) = 2 * k + 1 + 1 by omega, take_succ_at hb, wsum_snoc, take_succ_at ha, wsum_snoc]
  have l1 : (l.take (2 * k)).length = 2 * k := by rw [List.length_take]; omega
  have l2 : (l.take (2 * k) ++ [a]).length = 2 * k + 1 := by rw [List.length_append, l1]; rfl
  rw [l1, l2, (hiAt_even k).1, (hiAt_even k).2]
  simp

theorem str_snoc0 (bs : List UInt8) : ({ data := bs.toArray } : ByteArray) ++ ⟨#[0]⟩ = ⟨(bs ++ [0]).toArray⟩ := by
  apply ByteArray.ext
  simp [ByteArray.data_append]

set_option maxRecDepth 100000 in
theorem ref02Sum_any (bs : List UInt8) (hn : bs.length ≤ 20000) (w : World) : Calls Tryd.prog 41 #[.string ⟨bs.toArray⟩] w fun e w' => e = .returned (.int .u16 (sumS bs)) ∧ Fr No w w' := by
  have hsz := strSize bs
  have E := Lib.hid (even_len bs)
  have EW := Lib.hid (wsum_even bs)
  go_enter Tryd.func41, Tryd.ntmps41
  go_upto_if 8 with fail
  go_cut [0] (fun t wc => t = .string ⟨(even bs).toArray⟩ ∧ w = wc)
  case first =>
    by_cases h2 : bs.length % 2 = 1
    · have e := Lib.hid (show even bs = bs ++ [0] from if_pos h2)
      have hi : ((bs.length : Nat) : Int) % 2 = 1 := by omega
      go_wp2_with fail
      go_meet
      case rel => exact ⟨by rw [e.out, str_snoc0], rfl⟩
    · have e := Lib.hid (show even bs = bs from if_neg h2)
      have hi : ¬ ((bs.length : Nat) : Int) % 2 = 1 := by omega
      go_wp2_with fail
      go_meet
      case rel => exact ⟨by rw [e.out], rfl⟩
  case rest =>
    obtain ⟨rfl, rfl⟩ := hcut
    obtain ⟨cs, hcs⟩ : ∃ cs, cs = even bs := ⟨_, rfl⟩
    have HC := Lib.hid hcs
    rw [← hcs]
    have hsz2 := strSize cs
    have L := Lib.hid (show cs.length % 2 = 0 ∧ cs.length ≤ 20001 by have := E.out; rw [hcs]; omega)
    clear hcs hsz
    go_wp2_with fail
    go_loopw [3, 4] (fun t i wr => ∃ j : Nat, j ≤ cs.length ∧ (∃ k, j = 2 * k) ∧ i = .int .i64 (j : Nat) ∧ t = .int .i64 (wsum true (cs.take j) : Nat) ∧ Fr No w wr) (fun _ i _ => cs.length - (intOf i).toNat)
    case atStart => exact ⟨0, Nat.zero_le _, ⟨0, rfl⟩, rfl, rfl, Fr.refl _ _⟩
    case round =>
      obtain ⟨j, hj, hjk, rfl, rfl, hfr⟩ := hrel
      have JK := Lib.hid hjk
      have FR := Lib.hid hfr
      have hj1 : j ≤ 20001 := by have := L.out; omega
      clear hjk hfr
      by_cases hlt : j < cs.length
      · have hlt1 : j + 1 < cs.length := by have := L.out; obtain ⟨k, hk⟩ := JK.out; omega
        obtain ⟨a, ha⟩ := at_lt (bs := cs) (k := j) hlt
        obtain ⟨b, hb⟩ := at_lt (bs := cs) (k := j + 1) hlt1
        have HP : Hid (wsum true (cs.take (j + 2)) = wsum true (cs.take j) + a.toNat * 256 + b.toNat) := Lib.hid (by obtain ⟨k, rfl⟩ := JK.out; exact wsum_pair ha hb)
        have HW := Lib.hid (wsum_le (cs.take j) true)
        have HL : Hid ((cs.take j).length ≤ 20001) := Lib.hid (by rw [List.length_take]; have := L.out; omega)
        have hla := a.toNat_lt
        have hlb := b.toNat_lt
        have ea : ∀ h, (({ data := cs.toArray } : ByteArray)[j]'h) = a := fun h => by
          have := List.getElem?_eq_getElem (l := cs) hlt
          rw [ha] at this
          exact (Option.some.inj this).symm
        have eb : ∀ h, (({ data := cs.toArray } : ByteArray)[j + 1]'h) = b := fun h => by
          have := List.getElem?_eq_getElem (l := cs) hlt1
          rw [hb] at this
          exact (Option.some.inj this).symm
        clear ha hb
        obtain ⟨W, hWW⟩ : ∃ W, W = wsum true (cs.take j) := ⟨_, rfl⟩
        have hWl : W ≤ 1400000000 := by have := HW.out; have := HL.out; omega
        have HWW := Lib.hid hWW
        rw [← hWW]
        clear hWW
        have b1 : (j : Int) < (cs.length : Int) := by omega
        have b2 : (j : Int) + 1 < (cs.length : Int) := by omega
        have x1 : IntKind.i64.wrap ((j : Int) + 1) = (j : Int) + 1 := by rw [IntKind.wrap_i64]; have := L.out; omega
        have x2 : ((j : Int) + 1).toNat = j + 1 := by omega
        have x3 : (0 : Int) ≤ (j : Int) + 1 := by omega
        have x4 : IntKind.i64.wrap (a.toNat : Int) = (a.toNat : Int) := by rw [IntKind.wrap_i64]; omega
        have x5 : IntKind.i64.wrap (b.toNat : Int) = (b.toNat : Int) := by rw [IntKind.wrap_i64]; omega
        have x6 : IntKind.i64.wrap ((a.toNat : Int) * 256) = (a.toNat : Int) * 256 := by rw [IntKind.wrap_i64]; omega
        have x7 : IntKind.i64.wrap ((W : Int) + (a.toNat : Int) * 256) = (W : Int) + (a.toNat : Int) * 256 := by rw [IntKind.wrap_i64]; omega
        have x8 : IntKind.i64.wrap ((W : Int) + (a.toNat : Int) * 256 + (b.toNat : Int)) = (W : Int) + (a.toNat : Int) * 256 + (b.toNat : Int) := by rw [IntKind.wrap_i64]; omega
        go_wp2_with fail
        go_quiet (fail)
        go_wp2_with fail
        go_roundw
        case rel =>
          refine ⟨j + 2, by omega, ?_, by go_num, ?_, FR.out.drewN _⟩
          · obtain ⟨k, rfl⟩ := JK.out; exact ⟨k + 1, by omega⟩
          · rw [HP.out, ← HWW.out]
            go_num
        case measure => simp [intOf]; omega
      · have e1 : cs.take j = cs := List.take_of_length_le (by omega)
        have e2 : wsum true cs ≤ 1400000000 := by have := wsum_le cs true; have := L.out; omega
        rw [e1]
        have E2 := Lib.hid e2
        have b1 : ¬ (j : Int) < (cs.length : Int) := by omega
        clear e1 e2
        go_wp2_with (go_at_call 51; refine (ref02Fold_any _ (by have := E2.out; omega) _).mono ?_; rintro e w1 ⟨rfl, rfl⟩)
        go_ret
        refine ⟨?_, FR.out⟩
        have hf := fold_lt (wsum true cs)
        have es : sumS bs = 65535 - fold (wsum true cs) := by unfold sumS; rw [← EW.out, ← HC.out]
        rw [es]
        exact congrArg (fun x => Ending.returned (.int .u16 x)) (by rw [IntKind.wrap_u16]; omega)

theorem b4_four (n : Int) : b4 n = u8 (n / 16777216) :: three (n % 16777216) := by
  have e : ∀ x y : Int, x % 256 = y % 256 → u8 x = u8 y := fun x y h => by simp only [u8, h]
  simp only [b4, three]
  rw [e (n % 16777216 / 65536) (n / 65536) (by omega), e (n % 16777216 / 256) (n / 256) (by omega), e (n % 16777216) n (by omega)]

set_option maxRecDepth 100000 in
theorem ref13Four_any (n : Int) (h0 : 0 ≤ n) (h1 : n < 4294967296) (w : World) : Calls Tryd.prog 40 #[.int .u32 n] w fun e w' => e = .returned (.string ⟨(b4 n).toArray⟩) ∧ Fr No w w' := by
  obtain ⟨tt, hT⟩ : ∃ tt : ByteArray, tt = ⟨(three (n % 16777216)).toArray⟩ := ⟨_, rfl⟩
  have HT := Lib.hid hT
  have ht3 : tt.size = 3 := by rw [hT]; rfl
  clear hT
  have hmk : ∀ wx : World, OB (wx.alloc (.cells #[.int .u8 (n / 16777216)] 5)) 5 (some ⟨wx.heap.size, 0, none⟩) 1 1 [u8 (n / 16777216)] := fun wx =>
    OB.made (w := wx) (e := 5) [u8 (n / 16777216)] (by simp) (cs := #[.int .u8 (n / 16777216)]) (by simp [bytesV, byteV, u8_toNat]; omega) (n := 1) rfl rfl
  have hc := fun wx : World => run_bytes_string (P := Tryd.prog) _ 23 9 5 (hmk wx).bs Tryd.underlying23 Tryd.underlying5 Tryd.underlying9
  have hc0 := run_bytes_string (P := Tryd.prog) _ 23 9 5 ((hmk w).no ((Fr.refl No _).drew)).bs Tryd.underlying23 Tryd.underlying5 Tryd.underlying9
  have HMK := Lib.hid hmk
  clear hmk
  have x1 : IntKind.u32.wrap (n.tdiv 16777216) = n / 16777216 := by rw [Int.tdiv_eq_ediv_of_nonneg h0, IntKind.wrap_u32]; omega
  have x2 : IntKind.u8.wrap (n / 16777216) = n / 16777216 := by rw [IntKind.wrap_u8]; omega
  have x3 : n.tmod 16777216 = n % 16777216 := Int.tmod_eq_emod_of_nonneg h0
  go_enter Tryd.func40, Tryd.ntmps40
  go_wp2_with fail
  go_region_with ((go_at_call 27; refine (ref11Three_any _ (by omega) (by omega) _).mono ?_; rw [← HT.out]; rintro e w1 ⟨rfl, f1⟩; try have hx := run_bytes_string (P := Tryd.prog) w1 23 9 5 (((HMK.out w).no ((Fr.refl No _).drew)).no f1).bs Tryd.underlying23 Tryd.underlying5 Tryd.underlying9))
  all_goals go_wp2_with fail
  all_goals go_ret
  all_goals refine ⟨?_, by first | exact (((Fr.refl No w).alloc _).drew).then_no f1 | exact (((Fr.refl No w).drew).then_no f1).alloc _⟩
  all_goals
    rw [b4_four]
    show Ending.returned (.string (_ ++ tt)) = _
    rw [HT.out]
    congr 2

end Go.Proofs.YtghjcgpdmlfmjaaDoor

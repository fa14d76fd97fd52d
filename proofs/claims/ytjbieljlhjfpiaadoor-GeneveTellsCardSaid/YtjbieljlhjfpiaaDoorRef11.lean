/- The reference of layer 11: Size, Three, Number. -/
import Derived.Test.YtjbieljlhjfpiaaDoorOctW
import Derived.BigQuiet
namespace Go.Proofs.YtjbieljlhjfpiaaDoor
open Go.RowKit
set_option linter.unusedVariables false

def strV (bs : List UInt8) : Value := .string ⟨bs.toArray⟩
def sizeN (n : Int) : Int := if n < 14 then 2 else if 9000 < n then 7 else 0
theorem ref11Size_any (n : Int) (w : World) : Calls Tryd.prog 28 #[.int .i64 n] w fun e w' => e = .returned (.int .i64 (sizeN n)) ∧ w = w' := by
  by_cases h1 : n < 14
  · have e : sizeN n = 2 := if_pos h1
    rw [e]
    go_enter Tryd.func28, Tryd.ntmps28
    go_wp2
    go_ret
    exact ⟨rfl, rfl⟩
  · by_cases h2 : 9000 < n
    · have e : sizeN n = 7 := by unfold sizeN; rw [if_neg h1, if_pos h2]
      rw [e]
      go_enter Tryd.func28, Tryd.ntmps28
      go_wp2
      go_ret
      exact ⟨rfl, rfl⟩
    · have e : sizeN n = 0 := by unfold sizeN; rw [if_neg h1, if_neg h2]
      rw [e]
      go_enter Tryd.func28, Tryd.ntmps28
      go_wp2
      go_ret
      exact ⟨rfl, rfl⟩

def three (n : Int) : List UInt8 := [u8 (n / 65536), u8 (n / 256), u8 n]
set_option maxRecDepth 100000 in
theorem ref11Three_any (n : Int) (h0 : 0 ≤ n) (h1 : n < 16777216) (w : World) : Calls Tryd.prog 30 #[.int .u32 n] w fun e w' => e = .returned (.string ⟨(three n).toArray⟩) ∧ Fr No w w' := by
  have hc := run_bytes_string (P := Tryd.prog) (w.alloc (.cells #[.int .u8 (n / 65536), .int .u8 (n / 256 % 256), .int .u8 (n % 256)] 5)) 24 9 5
    (OB.made (w := w) (e := 5) (three n) (by simp [three]) (cs := #[.int .u8 (n / 65536), .int .u8 (n / 256 % 256), .int .u8 (n % 256)]) (by simp [three, bytesV, byteV, u8_toNat]; omega) (n := 3) rfl rfl).bs Tryd.underlying24 Tryd.underlying5 Tryd.underlying9
  have HF := Lib.hid ((Fr.refl No w).alloc (.cells #[.int .u8 (n / 65536), .int .u8 (n / 256 % 256), .int .u8 (n % 256)] 5))
  go_enter Tryd.func30, Tryd.ntmps30
  go_wp2_with fail
  go_ret
  exact ⟨rfl, HF.out⟩

theorem ref11Number_any (bs : List UInt8) (h : bs.length ≤ 4) (w : World) : Calls Tryd.prog 37 #[.string ⟨bs.toArray⟩] w fun e w' => e = .returned (.int .u32 (be bs : Nat)) ∧ w = w' := by
  go_enter Tryd.func37, Tryd.ntmps37
  go_wp2_with fail
  go_loopw [3, 4] (fun t3 t4 wr => ∃ k : Nat, t4 = .int .i64 k ∧ k ≤ bs.length ∧ t3 = .int .u32 (be (bs.take k) : Nat) ∧ wr = w) (fun _ t4 _ => bs.length - (intOf t4).toNat)
  case atStart => exact ⟨0, rfl, by omega, rfl, rfl⟩
  case round =>
    obtain ⟨k, rfl, hk, rfl, rfl⟩ := hrel
    by_cases hlt : k < bs.length
    · have b1 : (k : Int) < (bs.length : Int) := by omega
      go_wp2_with fail
      go_roundw
      case rel =>
        refine ⟨k + 1, by go_num, by omega, ?_, by first | rfl | trivial⟩
        have hc : bs[k]? = some bs[k] := List.getElem?_eq_getElem hlt
        rw [take_succ_at hc, be_snoc]
        have e : ∀ h, (({ data := bs.toArray } : ByteArray)[k]'h) = bs[k] := fun _ => rfl
        rw [e]
        have hb := be_lt (bs.take k)
        have hl : (bs.take k).length ≤ 3 := by rw [List.length_take]; omega
        have hp : 256 ^ (bs.take k).length ≤ 256 ^ 3 := Nat.pow_le_pow_right (by omega) hl
        have hcl := bs[k].toNat_lt
        congr 1
        omega
      case measure => simp [intOf]; omega
    · go_wp2_with fail
      go_ret
      exact ⟨by rw [List.take_of_length_le (by omega)]; rfl, rfl⟩

end Go.Proofs.YtjbieljlhjfpiaaDoor

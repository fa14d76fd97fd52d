/- Masks. -/
import Derived.Test.YthoppkklooomgaaBase
import Derived.Laws.BitsAllLaws
namespace Go.Proofs.Ythoppkklooomgaa
open Go.RowKit
set_option linter.unusedVariables false
theorem u32_mask24 (x : Int) (h0 : 0 ≤ x) (h1 : x < 4294967296) : bits .and .u32 x 16777215 = x % 16777216 := by
  rw [u32_and x 16777215 h0 h1 (by omega) (by omega)]
  show ((x.toNat &&& 16777215 : Nat) : Int) = _
  rw [nat_mask24]
  omega
theorem i64_mask16 (n : Int) : bits .and .i64 n 65535 = n % 65536 := by
  have hx : (BitVec.ofInt 64 n &&& BitVec.ofInt 64 65535).toNat = (n % 65536).toNat := by
    rw [BitVec.toNat_and, BitVec.toNat_ofInt, BitVec.toNat_ofInt]
    rw [show ((65535 : Int) % ((2 ^ 64 : Nat) : Int)).toNat = 65535 from by decide, nat_mask16]
    omega
  show IntKind.i64.wrap ((BitVec.ofInt 64 n &&& BitVec.ofInt 64 65535).toNat : Int) = _
  rw [hx, IntKind.wrap_i64]
  omega

theorem nat_not16 (x : Nat) (h : x < 65536) : 65535 ^^^ x = 65535 - x := by
  have e : (BitVec.allOnes 16 ^^^ BitVec.ofNat 16 x) = ~~~ (BitVec.ofNat 16 x) := BitVec.allOnes_xor
  have e2 := congrArg BitVec.toNat e
  rw [BitVec.toNat_xor, BitVec.toNat_not, BitVec.toNat_allOnes, BitVec.toNat_ofNat, Nat.mod_eq_of_lt (show x < 2 ^ 16 from h)] at e2
  simpa using e2
theorem u16_not (x : Nat) (h : x < 65536) : bits .xor .u16 IntKind.u16.max (x : Int) = ((65535 - x : Nat) : Int) := by
  show bits .xor .u16 ((65535 : Nat) : Int) (x : Int) = _
  rw [u16_xor_nat 65535 x (by omega) h, nat_not16 x h]

end Go.Proofs.Ythoppkklooomgaa
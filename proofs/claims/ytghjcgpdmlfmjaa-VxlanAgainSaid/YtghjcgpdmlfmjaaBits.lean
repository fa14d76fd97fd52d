/- Masks. -/
import Derived.Test.YtghjcgpdmlfmjaaBase
import Derived.Laws.BitsAllLaws
namespace Go.Proofs.Ytghjcgpdmlfmjaa
open Go.RowKit
set_option linter.unusedVariables false

theorem u32_mask24 (x : Int) (h0 : 0 ≤ x) (h1 : x < 4294967296) : bits .and .u32 x 16777215 = x % 16777216 := by
  rw [u32_and x 16777215 h0 h1 (by omega) (by omega)]
  show ((x.toNat &&& 16777215 : Nat) : Int) = _
  rw [nat_mask24]
  omega
theorem i64_mask16 (n : Int) : bits .and .i64 n 65535 = n % 65536 := by
  have hx : (BitVec.ofInt 64 n &&& BitVec.ofInt 64 65535).toNat = (n % 65536).toNat := by
    rw [BitVec.toNat_and, BitVec.toNat_ofInt, BitVec.toNat_ofInt]
    rw [show ((65535 : Int) % ((2 ^ 64 : Nat) : Int)).toNat = 65535 from by decide, nat_mask16]
    omega
  show IntKind.i64.wrap ((BitVec.ofInt 64 n &&& BitVec.ofInt 64 65535).toNat : Int) = _
  rw [hx, IntKind.wrap_i64]
  omega

end Go.Proofs.Ytghjcgpdmlfmjaa

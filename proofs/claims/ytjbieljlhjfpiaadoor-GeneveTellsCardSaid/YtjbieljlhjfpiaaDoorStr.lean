/- Texts: their sizes and parts; Number. -/
import Derived.Test.YtjbieljlhjfpiaaDoorRef11
namespace Go.Proofs.YtjbieljlhjfpiaaDoor
open Go.RowKit
set_option linter.unusedVariables false

theorem strSize (bs : List UInt8) : (({ data := bs.toArray } : ByteArray)).size = bs.length := by simp [ByteArray.size]
theorem ref11Number_s (s : ByteArray) (h : s.size ≤ 4) (w : World) : Calls Tryd.prog 37 #[.string s] w fun e w' => e = .returned (.int .u32 (be s.data.toList : Nat)) ∧ w = w' := by
  have h1 := ref11Number_any s.data.toList (by rw [Array.length_toList]; exact h) w
  have e : (⟨s.data.toList.toArray⟩ : ByteArray) = s := by
    apply ByteArray.ext
    exact Array.toArray_toList
  rw [e] at h1
  exact h1
theorem extract_toList (bs : List UInt8) (a b : Nat) : (({ data := bs.toArray } : ByteArray).extract a b).data.toList = (bs.drop a).take (b - a) := by
  rw [ByteArray.data_extract, Array.toList_extract]
theorem extract_str (bs : List UInt8) (a b : Nat) : ({ data := bs.toArray } : ByteArray).extract a b = ⟨((bs.drop a).take (b - a)).toArray⟩ := by
  apply ByteArray.ext
  apply Array.toList_inj.1
  rw [extract_toList]

/-- Four bytes, as a slice that is made and read as a text. -/
theorem made4 (w : World) (x0 x1 x2 x3 : Int) (h0 : 0 ≤ x0 ∧ x0 < 256) (h1 : 0 ≤ x1 ∧ x1 < 256) (h2 : 0 ≤ x2 ∧ x2 < 256) (h3 : 0 ≤ x3 ∧ x3 < 256) :
    OB (w.alloc (.cells #[.int .u8 x0, .int .u8 x1, .int .u8 x2, .int .u8 x3] 5)) 5 (some ⟨w.heap.size, 0, none⟩) 4 4 [u8 x0, u8 x1, u8 x2, u8 x3] :=
  OB.made (w := w) (e := 5) [u8 x0, u8 x1, u8 x2, u8 x3] (by simp) (cs := #[.int .u8 x0, .int .u8 x1, .int .u8 x2, .int .u8 x3]) (by simp [bytesV, byteV, u8_toNat]; omega) (n := 4) rfl rfl
theorem bytes_text {w : World} {ao : Option Addr} {n cap : Nat} {bs : List UInt8} (h : Bs w ao n cap bs) : (convert 24 9 (.slice ao n cap)).run Tryd.prog w = .ok (.string ⟨bs.toArray⟩) w :=
  run_bytes_string (P := Tryd.prog) w 24 9 5 h Tryd.underlying24 Tryd.underlying5 Tryd.underlying9

end Go.Proofs.YtjbieljlhjfpiaaDoor

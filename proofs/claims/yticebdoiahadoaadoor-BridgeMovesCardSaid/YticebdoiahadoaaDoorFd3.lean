/- fdb: bytes.Compare. -/
import Derived.Test.YticebdoiahadoaaDoorFd2
import Derived.Lib.Bytealg
import Derived.Lib.BytesEntry
import Derived.Laws.Externs
namespace Go.Proofs.YticebdoiahadoaaDoor
open Go.RowKit
set_option linter.unusedVariables false
set_option linter.unusedSimpArgs false
theorem run_bytesOf {w : World} {ao : Option Addr} {n cap : Nat} {bs : List UInt8} (h : Bs w ao n cap bs) : (Extern.Bytes.bytesOf (.slice ao n cap)).run Tryd.prog w = .ok ⟨bs.toArray⟩ w := by
  cases ao with
  | none =>
    have h1 := h.1
    have h2 := h.2.nocap rfl
    have h3 := h.2.le
    obtain rfl : bs = [] := List.eq_nil_of_length_eq_zero (by omega)
    rfl
  | some a =>
    have := Lib.run_loadBytesX (P := Tryd.prog) (w := w) (bs.map fun b => (b.toNat : Int)) a .empty (fun j x hx => by
      rw [List.getElem?_map] at hx
      cases hb : bs[j]? with
      | none => rw [hb] at hx; cases hx
      | some b => rw [hb] at hx; cases hx; exact h.at hb)
    rw [List.length_map, ← h.1, show Lib.bytesOf (bs.map fun b => (b.toNat : Int)) = bs from by simp [Lib.bytesOf, Function.comp_def]] at this
    simpa [Extern.Bytes.bytesOf] using this
set_option maxRecDepth 100000 in
theorem bCompare_any {w : World} {ao bo : Option Addr} {n cap m c : Nat} {xs ys : List UInt8} (h1 : Bs w ao n cap xs) (h2 : Bs w bo m c ys) :
    Calls Tryd.prog 54 #[.slice ao n cap, .slice bo m c] w fun e w' => e = .returned (.int .i64 (Lib.compareBytes xs ys)) ∧ w' = w := by
  have r1 := run_bytesOf h1
  have r2 := run_bytesOf h2
  have hc : (Extern.BytealgCompare.compare #[.slice ao n cap, .slice bo m c]).run Tryd.prog w = .ok (.int .i64 (Lib.compareBytes xs ys)) w := by
    change Sem.run Tryd.prog (do pure (goInt (Extern.BytealgCompare.cmp (← Extern.Bytes.bytesOf (.slice ao n cap)) (← Extern.Bytes.bytesOf (.slice bo m c))))) w = _
    simp only [Sem.run_bind, r1, r2, Sem.run_pure, Result.andThen]
    rw [Lib.cmp_eq]
    rfl
  have HC := Lib.hid hc
  clear h1 h2 r1 r2 hc
  go_enter Tryd.func54, Tryd.ntmps54
  go_wp2
  rw [run_callFunc_extern Tryd.func56 (by kernel_rfl) (by kernel_rfl) (by kernel_rfl) (e := Extern.BytealgCompare.compare) (by kernel_rfl), HC.out]
  simp only [Result.andThen]
  rw [Oper.upon_value]
  go_wp2
  go_ret
  exact ⟨rfl, rfl⟩
end Go.Proofs.YticebdoiahadoaaDoor
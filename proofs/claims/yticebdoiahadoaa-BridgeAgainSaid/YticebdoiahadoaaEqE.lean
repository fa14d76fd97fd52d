/- Entries compared with themselves. -/
import Derived.Test.YticebdoiahadoaaFdQ
namespace Go.Proofs.Yticebdoiahadoaa
open Go.RowKit
set_option linter.unusedVariables false
set_option linter.unusedSimpArgs false

set_option maxRecDepth 100000 in
theorem eqM_at (d : Nat) (m : Mac) (w : World) : (Op.equalIn (d + 2) 25 (.agg #[byteV m.a, byteV m.b, byteV m.c, byteV m.d, byteV m.e, byteV m.f]) (.agg #[byteV m.a, byteV m.b, byteV m.c, byteV m.d, byteV m.e, byteV m.f])).run Try.prog w = .ok true w := by
  have h := run_equalIn_bytes (P := Try.prog) w d 25 5 6 Try.underlying25 Try.underlying5 (fun w => Try.sizeOf5 w) (macL m) (macL m) rfl rfl
  have e : (macL m == macL m) = true := by simp
  rw [e] at h
  exact h
set_option maxRecDepth 100000 in
theorem neqE_self (e : En) (w : World) : (binOp .neq 73 (evE e) (evE e)).run Try.prog w = .ok (.bool false) w := by
  have u3 := Try.underlying3
  have u4 := Try.underlying4
  have u5 := Try.underlying22
  have a3 := Try.isAgg3
  have a4 := Try.isAgg4
  have a5 := Try.isAgg22
  have a6 := Try.isAgg25
  have a7 := Try.isAgg46
  have z3 := Try.sizeOf3
  have z4 := Try.sizeOf4
  have z5 := Try.sizeOf22
  have z6 := Try.sizeOf25
  have z7 := Try.sizeOf46
  have hS : Try.prog.underlying 73 = some (.struct (Try.prog.fieldsOf 73)) := by kernel_rfl
  have hp : Try.prog.stoodInHeld 73 = false := by kernel_rfl
  have hM : ∀ w, (Op.equalIn 9999 25 (.agg #[byteV e.mac.a, byteV e.mac.b, byteV e.mac.c, byteV e.mac.d, byteV e.mac.e, byteV e.mac.f]) (.agg #[byteV e.mac.a, byteV e.mac.b, byteV e.mac.c, byteV e.mac.d, byteV e.mac.e, byteV e.mac.f])).run Try.prog w = .ok true w := fun w => by
    have h := eqM_at 9997 e.mac w
    exact h
  have hP : ∀ w, (Op.equalIn 9999 46 (.agg #[.bool e.tun, .int .i64 e.n]) (.agg #[.bool e.tun, .int .i64 e.n])).run Try.prog w = .ok true w := fun w => by
    have hS2 : Try.prog.underlying 46 = some (.struct (Try.prog.fieldsOf 46)) := by kernel_rfl
    have hp2 : Try.prog.stoodInHeld 46 = false := by kernel_rfl
    rw [show (9999 : Nat) = 9998 + 1 from rfl, run_equalIn_agg w 9998 46 _ _ hS2 hp2]
    simp only [Program.fieldsOf, Try.underlying46]
    go_simp
  simp only [evE]
  rw [run_neq_struct, show (10000 : Nat) = 9999 + 1 from rfl, run_equalIn_agg w 9999 73 _ _ hS hp]
  simp only [Program.fieldsOf, Try.underlying73]
  go_simp
end Go.Proofs.Yticebdoiahadoaa

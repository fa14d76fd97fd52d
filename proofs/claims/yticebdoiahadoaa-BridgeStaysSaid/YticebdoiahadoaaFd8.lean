/- fdb: equality of MACs and places; Forget, Drop. -/
import Derived.Test.YticebdoiahadoaaFd7
import Derived.Stop.BytesEq
namespace Go.Proofs.Yticebdoiahadoaa
open Go.RowKit
set_option linter.unusedVariables false
set_option linter.unusedSimpArgs false

theorem macL_eq (x y : Mac) : (macL x == macL y) = decide (x = y) := by
  rw [Bool.eq_iff_iff, decide_eq_true_eq, beq_iff_eq]
  exact ⟨macL_inj, fun h => by rw [h]⟩
theorem eqM (x y : Mac) (w : World) : (binOp .eql 25 (evM x) (evM y)).run Try.prog w = .ok (.bool (decide (x = y))) w := by
  have h := run_eql_bytes (P := Try.prog) w 25 5 6 Try.underlying25 Try.underlying5 (fun w => Try.sizeOf5 w) (macL x) (macL y) rfl rfl
  rw [macL_eq] at h
  exact h
theorem neqM (x y : Mac) (w : World) : (binOp .neq 25 (evM x) (evM y)).run Try.prog w = .ok (.bool (!decide (x = y))) w := by
  change (binOp .neq 25 (.agg ((macL x).map Extern.Stop.cell).toArray) (.agg ((macL y).map Extern.Stop.cell).toArray)).run Try.prog w = _
  rw [run_neq_struct, run_equalIn_bytes w 9998 25 5 6 Try.underlying25 Try.underlying5 (fun w => Try.sizeOf5 w) (macL x) (macL y) rfl rfl, macL_eq]
  rfl
/-- A place. -/
structure Pl where
  tun : Bool
  n : Int
deriving DecidableEq, Inhabited
def evPL (p : Pl) : Value := .agg #[.bool p.tun, .int .i64 p.n]
def En.pl (e : En) : Pl := ⟨e.tun, e.n⟩
theorem eqPl (x y : Pl) (w : World) : (binOp .eql 46 (evPL x) (evPL y)).run Try.prog w = .ok (.bool (decide (x = y))) w := by
  have u3 := Try.underlying3
  have u4 := Try.underlying4
  have a3 := Try.isAgg3
  have a4 := Try.isAgg4
  have z3 := Try.sizeOf3
  have z4 := Try.sizeOf4
  have hS : Try.prog.underlying 46 = some (.struct (Try.prog.fieldsOf 46)) := by kernel_rfl
  have hp : Try.prog.stoodInHeld 46 = false := by kernel_rfl
  obtain ⟨a, b⟩ := x
  obtain ⟨a', b'⟩ := y
  simp only [evPL]
  rw [run_eql_struct, show (10000 : Nat) = 9999 + 1 from rfl, run_equalIn_agg w 9999 46 _ _ hS hp]
  simp only [Program.fieldsOf, Try.underlying46]
  go_simp
  by_cases h1 : a = a' <;> by_cases h2 : b = b' <;> simp [h1, h2]
theorem neqPl (x y : Pl) (w : World) : (binOp .neq 46 (evPL x) (evPL y)).run Try.prog w = .ok (.bool (!decide (x = y))) w := by
  have u3 := Try.underlying3
  have u4 := Try.underlying4
  have a3 := Try.isAgg3
  have a4 := Try.isAgg4
  have z3 := Try.sizeOf3
  have z4 := Try.sizeOf4
  have hS : Try.prog.underlying 46 = some (.struct (Try.prog.fieldsOf 46)) := by kernel_rfl
  have hp : Try.prog.stoodInHeld 46 = false := by kernel_rfl
  obtain ⟨a, b⟩ := x
  obtain ⟨a', b'⟩ := y
  simp only [evPL]
  rw [run_neq_struct, show (10000 : Nat) = 9999 + 1 from rfl, run_equalIn_agg w 9999 46 _ _ hS hp]
  simp only [Program.fieldsOf, Try.underlying46]
  go_simp
  by_cases h1 : a = a' <;> by_cases h2 : b = b' <;> simp [h1, h2]

set_option maxRecDepth 100000 in
set_option maxHeartbeats 2000000 in
theorem fbForgetF_any {W : World} {b p1 : Nat} {p : Pl} {e : En} (he : EnAt W b e) (hp1 : W.heap[p1]? = some (.cells #[.bool p.tun, .int .i64 p.n] 46 (0, 0))) {r : Bool} (hr : decide (e.pl = p) = r) :
    Calls Try.prog 65 #[evP b, .pointer (some ⟨p1, 0, none⟩)] W fun e' W' => e' = .returned (.bool r) ∧ Fr No W W' := by
  obtain ⟨-, -, -, -, -, -, c6, c7, -, -⟩ := he.cells
  have k0 : W.cell? ⟨p1, 0, none⟩ = some (.bool p.tun) := by rw [cell_of_row W p1 0 _ _ _ hp1]; rfl
  have k1 : W.cell? ⟨p1, 1, none⟩ = some (.int .i64 p.n) := by rw [cell_of_row W p1 1 _ _ _ hp1]; rfl
  have e1 : ∀ W, (binOp .eql 46 (.agg #[.bool e.tun, .int .i64 e.n]) (.agg #[.bool p.tun, .int .i64 p.n])).run Try.prog W = .ok (.bool r) W := fun W => by rw [← hr]; exact eqPl e.pl p W
  clear he hp1 hr
  unfold evP
  go_enter Try.func65, Try.ntmps65
  go_wp2_with fail
  go_quiet (fail)
  go_wp2_with fail
  go_ret
  exact ⟨rfl, (Fr.refl No W).drewN _⟩
end Go.Proofs.Yticebdoiahadoaa

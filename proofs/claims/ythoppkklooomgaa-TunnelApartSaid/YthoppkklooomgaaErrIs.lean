/- errors.Is at our errors: true just if the number is the one that is asked for. -/
import Derived.Test.YthoppkklooomgaaErr
import Derived.LaidEql
import Derived.Lib.IfaceEq
import Derived.Stop.Asserts
import Derived.RowKitTokens
import Derived.Elder7
namespace Go.Proofs.Ythoppkklooomgaa
open Go.RowKit Go.Extern.Stop Go.Stop Go.Extern
set_option linter.unusedVariables false
theorem isTypeOf (v : Value) (w : World) : (Extern.ReflectliteType.typeOf #[.iface 32 v]).run Try.prog w = .ok (.iface 126 (.agg #[.pointer (some ⟨3, 32, none⟩)])) w := by kernel_rfl

theorem callTypeOf (v : Value) (w : World) : (callFunc 37 #[.iface 32 v]).run Try.prog w = .ok (.value (.iface 126 (.agg #[.pointer (some ⟨3, 32, none⟩)]))) w := by kernel_rfl
theorem callComparable (w : World) : (callFunc 112 #[.agg #[.pointer (some ⟨3, 32, none⟩)]]).run Try.prog w = .ok (.value (.bool true)) w := by kernel_rfl

theorem methodComparable (v : Value) (w : World) : (Go.method 315 126 v "Comparable").run Try.prog w = .ok (112, v) w := by kernel_rfl
theorem methodUnwrap (v : Value) (w : World) : (Go.method 315 107 v "Unwrap").run Try.prog w = .ok (108, v) w := by kernel_rfl

theorem Err.unique {w : World} {v : Value} {ls ls' : List ByteArray} {n n' : Int} (h : Err w v ls n) (h' : Err w v ls' n') : ls = ls' ∧ n = n' := by
  induction h generalizing ls' n' with
  | num n => cases h'; exact ⟨rfl, rfl⟩
  | wrap h hv ih =>
    cases h' with
    | wrap g gv => rw [h] at g; cases g; obtain ⟨rfl, rfl⟩ := ih gv; exact ⟨rfl, rfl⟩

open Classical in
noncomputable def errLen (w : World) (v : Value) : Nat := if h : ∃ ls n, Err w v ls n then h.choose.length else 0
theorem errLen_eq {w : World} {v : Value} {ls : List ByteArray} {n : Int} (h : Err w v ls n) : errLen w v = ls.length := by
  unfold errLen
  have hh : ∃ ls n, Err w v ls n := ⟨ls, n, h⟩
  rw [dif_pos hh]
  obtain ⟨m, hm⟩ := hh.choose_spec
  rw [(hm.unique h).1]

theorem noIsE (v : Value) (xT : TypeId) (w : World) : (Instr.typeAssert (.iface 32 v) xT 128 true).run Try.prog w = .ok (.tuple #[.nilIface, .bool false]) w := run_typeAssert_lacksB Try.underlying128 (by kernel_rfl) (by kernel_rfl) v xT w
theorem noUnwrapE (v : Value) (xT : TypeId) (w : World) : (Instr.typeAssert (.iface 32 v) xT 131 true).run Try.prog w = .ok (.tuple #[.nilIface, .bool false]) w := run_typeAssert_lacksB Try.underlying131 (by kernel_rfl) (by kernel_rfl) v xT w
theorem noUnwrapsE (v : Value) (xT : TypeId) (w : World) : (Instr.typeAssert (.iface 32 v) xT 133 true).run Try.prog w = .ok (.tuple #[.nilIface, .bool false]) w := run_typeAssert_lacksB Try.underlying133 (by kernel_rfl) (by kernel_rfl) v xT w
theorem noIsW (v : Value) (xT : TypeId) (w : World) : (Instr.typeAssert (.iface 107 v) xT 128 true).run Try.prog w = .ok (.tuple #[.nilIface, .bool false]) w := run_typeAssert_lacksB Try.underlying128 (by kernel_rfl) (by kernel_rfl) v xT w
theorem hasUnwrapW (v : Value) (xT : TypeId) (w : World) : (Instr.typeAssert (.iface 107 v) xT 131 true).run Try.prog w = .ok (.tuple #[.iface 107 v, .bool true]) w := run_typeAssert_hasB Try.underlying131 (by kernel_rfl) v xT w

set_option maxRecDepth 1000000 in
theorem erris_any {W : World} {E : Value} {ls : List ByteArray} {n : Int} (hE : Err W E ls n) (m : Int) :
    Calls Try.prog 38 #[E, .iface 32 (.int .i64 m), .bool true] W fun e w' => e = .returned (.bool (n == m)) ∧ W = w' := by
  have nE := noIsE
  have uE := noUnwrapE
  have vE := noUnwrapsE
  have nW := noIsW
  have uW := hasUnwrapW
  have HE := Lib.hid hE
  clear hE
  go_enter Try.func38, Try.ntmps38
  go_wp2_with fail
  go_loopw [0] (fun E' wl => wl = W ∧ ∃ l', Err W E' l' n) (fun E' _ => errLen W E')
  case atStart => exact ⟨rfl, ls, HE.out⟩
  case round =>
    obtain ⟨rfl, l', hc'⟩ := hrel
    cases hc' with
    | num n =>
      have heq := fun wx => Lib.run_eql_iface_int (P := Try.prog) (t := 43) (tx := 32) (k := .i64) (q := .i64) wx n m Try.underlying43 (by kernel_rfl) Try.underlying32
      by_cases hnm : n = m
      · subst hnm
        go_wp2
        go_ret
        exact ⟨by simp, rfl⟩
      · have hb : (n == m) = false := beq_eq_false_iff_ne.2 hnm
        go_wp2
        go_ret
        exact ⟨by simp [hb], rfl⟩
    | @wrap b s v l n hb hv =>
      have hty := run_eql_iface_types (P := Try.prog) 107 32 (.pointer (some ⟨b, 0, none⟩)) (.int .i64 m) Try.underlying43 (by decide) wr
      have hlen := errLen_eq hv
      have hlen0 := errLen_eq (Err.wrap hb hv)
      obtain ⟨u1, v1, rfl⟩ := hv.held
      have hmu := methodUnwrap
      have hcell : wr.cell? ⟨b, 1, none⟩ = some (.iface u1 v1) := by rw [cell_of_row wr b 1 _ _ _ hb]; rfl
      have HC := Lib.hid hv
      have HL := Lib.hid hlen
      have HL0 := Lib.hid hlen0
      clear hv hb hlen hlen0
      go_wp2
      go_roundw
      case rel => exact ⟨trivial, l, HC.out⟩
      case measure =>
        show errLen wr (.iface u1 v1) < _
        rw [HL.out, HL0.out]; simp

set_option maxRecDepth 1000000 in
theorem errIs_any {w : World} {v : Value} {ls : List ByteArray} {n : Int} (h : Err w v ls n) (m : Int) :
    Calls Try.prog 16 #[v, .iface 32 (.int .i64 m)] w fun e w' => e = .returned (.bool (n == m)) ∧ w = w' := by
  obtain ⟨t, x, rfl⟩ := h.held
  have ht := callTypeOf
  have hcp := callComparable
  have hmc := methodComparable
  have H := Lib.hid h
  clear h
  go_enter Try.func16, Try.ntmps16
  go_wp2_with (go_at_call 38; refine (erris_any H.out m).mono ?_; rintro e w1 ⟨rfl, rfl⟩)
  go_ret
  exact ⟨rfl, rfl⟩

end Go.Proofs.Ythoppkklooomgaa
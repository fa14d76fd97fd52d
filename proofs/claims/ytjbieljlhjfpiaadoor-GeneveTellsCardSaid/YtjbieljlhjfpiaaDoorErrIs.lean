/- errors.Is at our errors: true just if the number is the one that is asked for. -/
import Derived.Test.YtjbieljlhjfpiaaDoorErr
import Derived.LaidEql
import Derived.Lib.IfaceEq
import Derived.Stop.Asserts
import Derived.RowKitTokens
import Derived.Elder7
namespace Go.Proofs.YtjbieljlhjfpiaaDoor
open Go.RowKit Go.Extern.Stop Go.Stop Go.Extern
set_option linter.unusedVariables false

theorem isTypeOf (v : Value) (w : World) : (Extern.ReflectliteType.typeOf #[.iface 32 v]).run Tryd.prog w = .ok (.iface 107 (.agg #[.pointer (some ⟨4, 32, none⟩)])) w := by kernel_rfl

theorem callTypeOf (v : Value) (w : World) : (callFunc 40 #[.iface 32 v]).run Tryd.prog w = .ok (.value (.iface 107 (.agg #[.pointer (some ⟨4, 32, none⟩)]))) w := by kernel_rfl
theorem callComparable (w : World) : (callFunc 98 #[.agg #[.pointer (some ⟨4, 32, none⟩)]]).run Tryd.prog w = .ok (.value (.bool true)) w := by kernel_rfl

theorem methodComparable (v : Value) (w : World) : (Go.method 269 107 v "Comparable").run Tryd.prog w = .ok (98, v) w := by kernel_rfl
theorem methodUnwrap (v : Value) (w : World) : (Go.method 269 82 v "Unwrap").run Tryd.prog w = .ok (92, v) w := by kernel_rfl

theorem Err.unique {w : World} {v : Value} {ls ls' : List ByteArray} {n n' : Int} (h : Err w v ls n) (h' : Err w v ls' n') : ls = ls' ∧ n = n' := by
  induction h generalizing ls' n' with
  | num n => cases h'; exact ⟨rfl, rfl⟩
  | wrap h hv ih =>
    cases h' with
    | wrap g gv => rw [h] at g; cases g; obtain ⟨rfl, rfl⟩ := ih gv; exact ⟨rfl, rfl⟩

open Classical in
noncomputable def errLen (w : World) (v : Value) : Nat := if h : ∃ ls n, Err w v ls n then h.choose.length else 0
theorem errLen_eq {w : World} {v : Value} {ls : List ByteArray} {n : Int} (h : Err w v ls n) : errLen w v = ls.length := by
  unfold errLen
  have hh : ∃ ls n, Err w v ls n := ⟨ls, n, h⟩
  rw [dif_pos hh]
  obtain ⟨m, hm⟩ := hh.choose_spec
  rw [(hm.unique h).1]

theorem noIsE (v : Value) (xT : TypeId) (w : World) : (Instr.typeAssert (.iface 32 v) xT 109 true).run Tryd.prog w = .ok (.tuple #[.nilIface, .bool false]) w := run_typeAssert_lacksB Tryd.underlying109 (by kernel_rfl) (by kernel_rfl) v xT w
theorem noUnwrapE (v : Value) (xT : TypeId) (w : World) : (Instr.typeAssert (.iface 32 v) xT 112 true).run Tryd.prog w = .ok (.tuple #[.nilIface, .bool false]) w := run_typeAssert_lacksB Tryd.underlying112 (by kernel_rfl) (by kernel_rfl) v xT w
theorem noUnwrapsE (v : Value) (xT : TypeId) (w : World) : (Instr.typeAssert (.iface 32 v) xT 114 true).run Tryd.prog w = .ok (.tuple #[.nilIface, .bool false]) w := run_typeAssert_lacksB Tryd.underlying114 (by kernel_rfl) (by kernel_rfl) v xT w
theorem noIsW (v : Value) (xT : TypeId) (w : World) : (Instr.typeAssert (.iface 82 v) xT 109 true).run Tryd.prog w = .ok (.tuple #[.nilIface, .bool false]) w := run_typeAssert_lacksB Tryd.underlying109 (by kernel_rfl) (by kernel_rfl) v xT w
theorem hasUnwrapW (v : Value) (xT : TypeId) (w : World) : (Instr.typeAssert (.iface 82 v) xT 112 true).run Tryd.prog w = .ok (.tuple #[.iface 82 v, .bool true]) w := run_typeAssert_hasB Tryd.underlying112 (by kernel_rfl) v xT w

set_option maxRecDepth 1000000 in
theorem erris_any {W : World} {E : Value} {ls : List ByteArray} {n : Int} (hE : Err W E ls n) (m : Int) :
    Calls Tryd.prog 41 #[E, .iface 32 (.int .i64 m), .bool true] W fun e w' => e = .returned (.bool (n == m)) ∧ W = w' := by
  have nE := noIsE
  have uE := noUnwrapE
  have vE := noUnwrapsE
  have nW := noIsW
  have uW := hasUnwrapW
  have HE := Lib.hid hE
  clear hE
  go_enter Tryd.func41, Tryd.ntmps41
  go_wp2_with fail
  go_loopw [0] (fun E' wl => wl = W ∧ ∃ l', Err W E' l' n) (fun E' _ => errLen W E')
  case atStart => exact ⟨rfl, ls, HE.out⟩
  case round =>
    obtain ⟨rfl, l', hc'⟩ := hrel
    cases hc' with
    | num n =>
      have heq := fun wx => Lib.run_eql_iface_int (P := Tryd.prog) (t := 29) (tx := 32) (k := .i64) (q := .i64) wx n m Tryd.underlying29 (by kernel_rfl) Tryd.underlying32
      by_cases hnm : n = m
      · subst hnm
        go_wp2
        go_ret
        exact ⟨by simp, rfl⟩
      · have hb : (n == m) = false := beq_eq_false_iff_ne.2 hnm
        go_wp2
        go_ret
        exact ⟨by simp [hb], rfl⟩
    | @wrap b s v l n hb hv =>
      have hty := run_eql_iface_types (P := Tryd.prog) 82 32 (.pointer (some ⟨b, 0, none⟩)) (.int .i64 m) Tryd.underlying29 (by decide) wr
      have hlen := errLen_eq hv
      have hlen0 := errLen_eq (Err.wrap hb hv)
      obtain ⟨u1, v1, rfl⟩ := hv.held
      have hmu := methodUnwrap
      have hcell : wr.cell? ⟨b, 1, none⟩ = some (.iface u1 v1) := by rw [cell_of_row wr b 1 _ _ _ hb]; rfl
      have HC := Lib.hid hv
      have HL := Lib.hid hlen
      have HL0 := Lib.hid hlen0
      clear hv hb hlen hlen0
      go_wp2
      go_roundw
      case rel => exact ⟨trivial, l, HC.out⟩
      case measure =>
        show errLen wr (.iface u1 v1) < _
        rw [HL.out, HL0.out]; simp

set_option maxRecDepth 1000000 in
theorem errIs_any {w : World} {v : Value} {ls : List ByteArray} {n : Int} (h : Err w v ls n) (m : Int) :
    Calls Tryd.prog 19 #[v, .iface 32 (.int .i64 m)] w fun e w' => e = .returned (.bool (n == m)) ∧ w = w' := by
  obtain ⟨t, x, rfl⟩ := h.held
  have ht := callTypeOf
  have hcp := callComparable
  have hmc := methodComparable
  have H := Lib.hid h
  clear h
  go_enter Tryd.func19, Tryd.ntmps19
  go_wp2_with (go_at_call 41; refine (erris_any H.out m).mono ?_; rintro e w1 ⟨rfl, rfl⟩)
  go_ret
  exact ⟨rfl, rfl⟩

end Go.Proofs.YtjbieljlhjfpiaaDoor

/- errors.As at a target of type *api.Errno; api.Code: the walks. -/
import Derived.Test.YtjbieljlhjfpiaaDoorErrAs
import Derived.Test.YtjbieljlhjfpiaaDoorOct
namespace Go.Proofs.YtjbieljlhjfpiaaDoor
open Go.RowKit Go.Extern.Stop Go.Stop Go.Extern
set_option linter.unusedVariables false

def AsOk (tb : Nat) (n : Int) (W : World) (e : Ending) (w' : World) : Prop := e = .returned (.bool true) ∧ Fr (Is tb) W w' ∧ w'.cell? ⟨tb, 0, none⟩ = some (.int .i64 n)

set_option maxHeartbeats 4000000 in
set_option maxRecDepth 1000000 in
theorem erras_any {W : World} {E : Value} {ls : List ByteArray} {n : Int} (hE : Err W E ls n) (tb ab : Nat) (old : Int) (ht : W.heap[tb]? = some (.cells #[.int .i64 old] 32 (0, 0))) (ha : W.cell? ⟨ab, 0, none⟩ = some (.pointer (some ⟨tb, 0, none⟩))) :
    Calls Tryd.prog 53 #[E, .iface 77 (.pointer (some ⟨tb, 0, none⟩)), .agg #[.pointer (some ⟨4, 77, none⟩), .pointer (some ⟨ab, 0, none⟩), .int .u64 150], .iface 107 (.agg #[.pointer (some ⟨4, 32, none⟩)])] W (AsOk tb n W) := by
  have h1 := @run_callFunc_extern Tryd.prog 40 _ ReflectliteType.typeOf Tryd.func40 (by kernel_rfl) (by kernel_rfl) (by kernel_rfl) (by kernel_rfl)
  have h2 := @run_callFunc_extern Tryd.prog 97 _ (ReflectliteType.relation "AssignableTo" ReflectliteType.assignableTo) Tryd.func97 (by kernel_rfl) (by kernel_rfl) (by kernel_rfl) (by kernel_rfl)
  have h3 := @run_callFunc_extern Tryd.prog 59 _ (ReflectliteValue.method (ReflectliteValue.valueError "reflectlite.Value.Elem" 0) ReflectliteValue.elem) Tryd.func59 (by kernel_rfl) (by kernel_rfl) (by kernel_rfl) (by kernel_rfl)
  have h4 := @run_callFunc_extern Tryd.prog 50 _ (fun args => ReflectliteValue.unpack (args.getD 0 (.tuple #[]))) Tryd.func50 (by kernel_rfl) (by kernel_rfl) (by kernel_rfl) (by kernel_rfl)
  have h5 := @run_callFunc_extern Tryd.prog 60 _ ReflectliteValue.set Tryd.func60 (by kernel_rfl) (by kernel_rfl) (by kernel_rfl) (by kernel_rfl)
  have mA := methodAssignableTo
  have tE := typeOfE
  have tW := typeOfW
  have aE := assignableE
  have aW := assignableW
  have vE := valueOfE
  have nE := noAsE
  have nW := noAsW
  have uW := hasUnwrapW
  have HE := Lib.hid hE
  have HT := Lib.hid ht
  have HA := Lib.hid ha
  clear hE ht ha
  go_enter Tryd.func53, Tryd.ntmps53
  go_wp2_with fail
  have F0 := Lib.hid ((Fr.refl No W).alloc (.cells #[.pointer (some ⟨4, 77, none⟩), .pointer (some ⟨ab, 0, none⟩), .int .u64 150] 99))
  have X0 := Lib.hid (heap_alloc_new W (.cells #[.pointer (some ⟨4, 77, none⟩), .pointer (some ⟨ab, 0, none⟩), .int .u64 150] 99))
  generalize hw0 : W.alloc (.cells #[.pointer (some ⟨4, 77, none⟩), .pointer (some ⟨ab, 0, none⟩), .int .u64 150] 99) = w0 at *
  clear hw0
  have b0 : w0.cell? ⟨W.heap.size, 0, none⟩ = some (.pointer (some ⟨4, 77, none⟩)) := by rw [cell_of_row w0 _ 0 _ _ _ X0.out]; rfl
  have b1 : w0.cell? ⟨W.heap.size, 1, none⟩ = some (.pointer (some ⟨ab, 0, none⟩)) := by rw [cell_of_row w0 _ 1 _ _ _ X0.out]; rfl
  have b2 : w0.cell? ⟨W.heap.size, 2, none⟩ = some (.int .u64 150) := by rw [cell_of_row w0 _ 2 _ _ _ X0.out]; rfl
  go_loopw [0] (fun E' wl => wl = w0 ∧ ∃ l', Err w0 E' l' n) (fun E' _ => errLen w0 E')
  case atStart => exact ⟨rfl, ls, HE.out.no F0.out⟩
  case round =>
    obtain ⟨rfl, l', hc'⟩ := hrel
    cases hc' with
    | num n =>
      have ht0 := F0.out.heap HT.out (fun h => h)
      have hc0 : wr.cell? ⟨tb, 0, none⟩ = some (.int .i64 old) := by rw [cell_of_row wr tb 0 _ _ _ ht0]; rfl
      have hf0 : wr.frozen? ⟨tb, 0, none⟩ = false := frozen_of_row wr tb 0 _ _ ht0
      have hlt := lt_of_heap ht0
      have el := elemVP ⟨ab, 0, none⟩ ⟨tb, 0, none⟩ wr (F0.out.cell HA.out (fun h => h))
      have st := setE ⟨tb, 0, none⟩ ⟨wr.heap.size, 0, none⟩ n (.int .i64 old) (wr.alloc (.cells #[.int .i64 n] 32)) (by rw [World.cell?_alloc_at _ _ _ _ (by simp)]; rfl) (by rw [World.cell?_alloc_lt _ _ _ hlt]; exact hc0) (by rw [World.frozen?_alloc_old _ _ _ (Nat.ne_of_lt hlt)]; exact hf0)
      have F1 := Lib.hid (((F0.out.alloc (.cells #[.int .i64 n] 32)).of_no (S := Is tb)).setCell (p := ⟨tb, 0, none⟩) (.inl rfl) (.int .i64 n))
      have C1 : Hid (((wr.alloc (.cells #[.int .i64 n] 32)).setCell ⟨tb, 0, none⟩ (.int .i64 n)).cell? ⟨tb, 0, none⟩ = some (.int .i64 n)) := Lib.hid (by
        have h := one_set (u := .int .i64 n) (((Fr.refl No wr).alloc (.cells #[.int .i64 n] 32)).heap ht0 (fun h => h))
        rw [cell_of_row _ tb 0 _ _ _ h]; rfl)
      clear ht0 hlt
      go_wp2
      go_ret
      exact ⟨rfl, F1.out, C1.out⟩
    | @wrap b s v l n hb hv =>
      have hlen := errLen_eq hv
      have hlen0 := errLen_eq (Err.wrap hb hv)
      obtain ⟨u1, v1, rfl⟩ := hv.held
      have hmu := methodUnwrap
      have hcell : wr.cell? ⟨b, 1, none⟩ = some (.iface u1 v1) := by rw [cell_of_row wr b 1 _ _ _ hb]; rfl
      have HC := Lib.hid hv
      have HL := Lib.hid hlen
      have HL0 := Lib.hid hlen0
      clear hv hb hlen hlen0
      go_wp2
      go_roundw
      case rel => exact ⟨trivial, l, HC.out⟩
      case measure =>
        show errLen wr (.iface u1 v1) < _
        rw [HL.out, HL0.out]; simp

set_option maxHeartbeats 4000000 in
set_option maxRecDepth 1000000 in
theorem errAs_any {w : World} {v : Value} {ls : List ByteArray} {n : Int} (hg : EG w) (h : Err w v ls n) (tb : Nat) (old : Int) (ht : w.heap[tb]? = some (.cells #[.int .i64 old] 32 (0, 0))) :
    Calls Tryd.prog 39 #[v, .iface 77 (.pointer (some ⟨tb, 0, none⟩))] w (AsOk tb n w) := by
  obtain ⟨tt, x, rfl⟩ := h.held
  have h1 := @run_callFunc_extern Tryd.prog 51 _ (ReflectliteValue.methodAny (ReflectliteValue.valueError "reflectlite.Value.Type" 0) (fun t _ _ _ => ReflectliteType.toType t)) Tryd.func51 (by kernel_rfl) (by kernel_rfl) (by kernel_rfl) (by kernel_rfl)
  have h2 := @run_callFunc_extern Tryd.prog 52 _ (ReflectliteValue.method (ReflectliteValue.valueError "reflectlite.Value.IsNil" 0) ReflectliteValue.isNil) Tryd.func52 (by kernel_rfl) (by kernel_rfl) (by kernel_rfl) (by kernel_rfl)
  have h3 := @run_callFunc_extern Tryd.prog 87 _ (ReflectliteType.abiMethod fun t => do pure (.int .u8 (← Rtype.kind t))) Tryd.func87 (by kernel_rfl) (by kernel_rfl) (by kernel_rfl) (by kernel_rfl)
  have h4 := @run_callFunc_extern Tryd.prog 50 _ (fun args => ReflectliteValue.unpack (args.getD 0 (.tuple #[]))) Tryd.func50 (by kernel_rfl) (by kernel_rfl) (by kernel_rfl) (by kernel_rfl)
  have h5 := @run_callFunc_extern Tryd.prog 99 _ (ReflectliteType.method ReflectliteType.elem) Tryd.func99 (by kernel_rfl) (by kernel_rfl) (by kernel_rfl) (by kernel_rfl)
  have h6 := @run_callFunc_extern Tryd.prog 100 _ (ReflectliteType.relation "Implements" ReflectliteType.implements_) Tryd.func100 (by kernel_rfl) (by kernel_rfl) (by kernel_rfl) (by kernel_rfl)
  have vP := valueOfP
  have tP := typeP
  have mK := methodKind
  have mE := methodElem
  have mI := methodImplements
  have kP := kindP
  have kE := kindE
  have eP := elemP
  have iE := implementsE
  have F2 := Lib.hid (((Fr.refl No w).alloc (.cells #[.pointer (some ⟨tb, 0, none⟩)] 77)).alloc (.cells #[.pointer (some ⟨4, 77, none⟩), .pointer (some ⟨w.heap.size, 0, none⟩), .int .u64 150] 99))
  have nP := isNilP ⟨w.heap.size, 0, none⟩ ⟨tb, 0, none⟩ ((w.alloc (.cells #[.pointer (some ⟨tb, 0, none⟩)] 77)).alloc (.cells #[.pointer (some ⟨4, 77, none⟩), .pointer (some ⟨w.heap.size, 0, none⟩), .int .u64 150] 99)) (by simp)
  have hg2 := hg.no F2.out
  have A2 : Hid (((w.alloc (.cells #[.pointer (some ⟨tb, 0, none⟩)] 77)).alloc (.cells #[.pointer (some ⟨4, 77, none⟩), .pointer (some ⟨w.heap.size, 0, none⟩), .int .u64 150] 99)).cell? ⟨w.heap.size, 0, none⟩ = some (.pointer (some ⟨tb, 0, none⟩))) := Lib.hid (by simp)
  unfold EG at hg2
  have H := Lib.hid h
  have HT := Lib.hid ht
  clear h hg ht
  go_enter Tryd.func39, Tryd.ntmps39
  go_wp2_with (go_at_call 53; refine (erras_any (H.out.no F2.out) tb w.heap.size old (F2.out.heap HT.out (fun h => h)) A2.out).mono ?_; rintro e w3 ⟨rfl, f3, c3⟩)
  go_ret
  exact ⟨rfl, (F2.out.of_no).trans f3, c3⟩

def CodeOk (w : World) (n : Int) (e : Ending) (w' : World) : Prop := e = .returned (.int .i64 n) ∧ Fr No w w'
/-- api.Code: the number that an error wraps. -/
theorem code_any {w : World} {v : Value} {ls : List ByteArray} {n : Int} (hg : EG w) (h : Err w v ls n) : Calls Tryd.prog 18 #[v] w (CodeOk w n) := by
  obtain ⟨tt, x, rfl⟩ := h.held
  have F1 := Lib.hid ((Fr.refl No w).alloc (.cells #[.int .i64 0] 32))
  have H := Lib.hid h
  have HG := Lib.hid hg
  clear h hg
  go_enter Tryd.func18, Tryd.ntmps18
  go_wp2_with (go_at_call 39; refine (errAs_any (HG.out.no F1.out) (H.out.no F1.out) w.heap.size 0 (heap_alloc_new w _)).mono ?_; rintro e w3 ⟨rfl, f3, c3⟩; have F3 := Lib.hid (F1.out.then f3 (by rintro i hi rfl; exact absurd hi (Nat.lt_irrefl _))); clear f3)
  go_ret
  exact ⟨rfl, F3.out⟩
theorem code_nil (w : World) : Calls Tryd.prog 18 #[.nilIface] w fun e w' => e = .returned (.int .i64 0) ∧ w = w' := by
  go_enter Tryd.func18, Tryd.ntmps18
  go_wp2
  go_ret
  exact ⟨rfl, rfl⟩

end Go.Proofs.YtjbieljlhjfpiaaDoor

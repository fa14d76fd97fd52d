/- 'shown' (layer 12). -/
import Derived.Test.YtjbieljlhjfpiaaDoorSh12
import Derived.Lib.SmallJoins
namespace Go.Proofs.YtjbieljlhjfpiaaDoor
open Go.RowKit
set_option linter.unusedVariables false

theorem make14 (w : World) : (Instr.makeSlice 24 (.int .i64 14) (.int .i64 14)).run Tryd.prog w =
    .ok (.slice (some ⟨w.heap.size, 0, none⟩) 14 14) (w.alloc (.cells (List.replicate 14 (.int .u8 0)).toArray 5)) := by kernel_rfl
/-- Fourteen bytes of nothing. -/
def zero14 : List UInt8 := List.replicate 14 0
def ShownOk (w : World) (e : Ending) (w' : World) : Prop := e = .returned (.bool true) ∧ Fr No w w'
theorem short_two : Short [geneveS, octetsS] := by
  refine ⟨fun s hs => ?_, by simp⟩
  simp only [List.mem_cons, List.not_mem_nil, or_false] at hs
  rcases hs with rfl | rfl <;> decide
theorem shown12_txt : txt [geneveS, octetsS] 2 = ⟨#[103, 101, 110, 101, 118, 101, 58, 32, 111, 99, 116, 101, 116, 115, 58, 32, 101, 114, 114, 111, 114, 32, 50]⟩ := by decide +kernel
def abcd : List UInt8 := [97, 98, 99, 100]
def opt12 : Opt := ⟨258, 131, abcd⟩
theorem right12 : rightN [opt12] = 0 := by decide +kernel

theorem critical12 (w : World) (a : Option Addr) (n c : Nat) : Calls Tryd.prog 12 #[.agg #[.int .u16 258, .int .u8 131, .slice a n c]] w (CritOk w true) := by
  have h := critical_any (w := w) 258 131 (.slice a n c) rfl
  have e1 : (((131 : UInt8).toNat : Nat) : Int) = 131 := by decide
  have e2 : crit 131 = true := by decide
  rw [e1, e2] at h
  exact h
/-- The world in which the first call is made. -/
def start12 (w : World) : World := (((w.alloc (.cells #[.int .u8 0, .int .u8 0, .int .u8 0, .int .u8 0, .int .u8 0, .int .u8 0, .int .u8 0, .int .u8 0, .int .u8 0, .int .u8 0, .int .u8 0, .int .u8 0, .int .u8 0, .int .u8 0] 5)).alloc (.cells #[.int .u8 97, .int .u8 98, .int .u8 99, .int .u8 100] 5 (4, 5))).alloc
  (.cells #[.int .u16 258, .int .u8 131, .slice (some ⟨w.heap.size + 1, 0, none⟩) 4 4] 42)).alloc (.cells #[.int .u16 258, .int .u8 131, .slice (some ⟨w.heap.size + 1, 0, none⟩) 4 4] 42)
theorem start12_fr (w : World) : Fr No w (start12 w) := ((((Fr.refl No w).alloc _).alloc _).alloc _).alloc _
theorem start12_z (w : World) : OB (start12 w) 5 (some ⟨w.heap.size, 0, none⟩) 14 14 zero14 :=
  (OB.made (w := w) (e := 5) zero14 (by decide) (cs := #[.int .u8 0, .int .u8 0, .int .u8 0, .int .u8 0, .int .u8 0, .int .u8 0, .int .u8 0, .int .u8 0, .int .u8 0, .int .u8 0, .int .u8 0, .int .u8 0, .int .u8 0, .int .u8 0]) (by rfl) rfl rfl).no ((((Fr.refl No _).alloc _).alloc _).alloc _)
theorem start12_b (w : World) : Bs (start12 w) (some ⟨w.heap.size + 1, 0, none⟩) 4 4 abcd := by
  have hh : (start12 w).heap[w.heap.size + 1]? = some (.cells #[.int .u8 97, .int .u8 98, .int .u8 99, .int .u8 100] 5 (4, 5)) := by
    refine (((Fr.refl No _).alloc _).alloc _).heap ?_ (fun h => h)
    have := heap_alloc_new (w.alloc (.cells #[.int .u8 0, .int .u8 0, .int .u8 0, .int .u8 0, .int .u8 0, .int .u8 0, .int .u8 0, .int .u8 0, .int .u8 0, .int .u8 0, .int .u8 0, .int .u8 0, .int .u8 0, .int .u8 0] 5)) (.cells #[.int .u8 97, .int .u8 98, .int .u8 99, .int .u8 100] 5 (4, 5))
    simpa using this
  refine ⟨rfl, Nat.le_refl _, by omega, fun h => (by cases h), fun a ha j u hu => ?_⟩
  cases ha
  rw [Addr.add_lit, Nat.zero_add, cell_of_row _ _ j _ _ _ hh]
  have e : (bytesV abcd)[j]? = #[.int .u8 97, .int .u8 98, .int .u8 99, .int .u8 100][j]? := by
    have : bytesV abcd = [.int .u8 97, .int .u8 98, .int .u8 99, .int .u8 100] := by rfl
    rw [this]; simp
  rw [← e]; exact hu
theorem start12_x (w : World) : (start12 w).heap[w.heap.size + 1 + 1]? = some (.cells #[.int .u16 258, .int .u8 131, .slice (some ⟨w.heap.size + 1, 0, none⟩) 4 4] 42 (0, 0)) := by
  refine ((Fr.refl No _).alloc _).heap ?_ (fun h => h)
  have := heap_alloc_new ((w.alloc (.cells #[.int .u8 0, .int .u8 0, .int .u8 0, .int .u8 0, .int .u8 0, .int .u8 0, .int .u8 0, .int .u8 0, .int .u8 0, .int .u8 0, .int .u8 0, .int .u8 0, .int .u8 0, .int .u8 0] 5)).alloc (.cells #[.int .u8 97, .int .u8 98, .int .u8 99, .int .u8 100] 5 (4, 5))) (.cells #[.int .u16 258, .int .u8 131, .slice (some ⟨w.heap.size + 1, 0, none⟩) 4 4] 42)
  simpa using this
theorem start12_r (w : World) : Rs (start12 w) (some ⟨w.heap.size + 1 + 1 + 1, 0, none⟩) 1 1 [opt12] := by
  have hh : (start12 w).heap[w.heap.size + 1 + 1 + 1]? = some (.cells #[.int .u16 258, .int .u8 131, .slice (some ⟨w.heap.size + 1, 0, none⟩) 4 4] 42 (0, 0)) := by
    have := heap_alloc_new (((w.alloc (.cells #[.int .u8 0, .int .u8 0, .int .u8 0, .int .u8 0, .int .u8 0, .int .u8 0, .int .u8 0, .int .u8 0, .int .u8 0, .int .u8 0, .int .u8 0, .int .u8 0, .int .u8 0, .int .u8 0] 5)).alloc (.cells #[.int .u8 97, .int .u8 98, .int .u8 99, .int .u8 100] 5 (4, 5))).alloc (.cells #[.int .u16 258, .int .u8 131, .slice (some ⟨w.heap.size + 1, 0, none⟩) 4 4] 42)) (.cells #[.int .u16 258, .int .u8 131, .slice (some ⟨w.heap.size + 1, 0, none⟩) 4 4] 42)
    unfold start12
    simpa using this
  refine ⟨rfl, Nat.le_refl _, by omega, fun h => (by cases h), fun a ha i o ho => ?_, fun o ho => ?_⟩
  · cases ha
    cases i with
    | zero =>
      simp at ho; subst ho
      obtain ⟨c0, c1, c2⟩ := cells3 hh
      exact ⟨_, 4, c0, c1, c2, start12_b w⟩
    | succ i => simp at ho
  · simp at ho; subst ho; decide

set_option maxHeartbeats 1600000 in
set_option maxRecDepth 100000 in
theorem shown12_any (w : World) : Calls Tryd.prog 5 #[] w (ShownOk w) := by
  have hmk := make14
  have hcv := fun (w' : World) (hg : w.heap.size + 1 = w'.heap.size) => Go.Joins.run_convert_bytes_const_at (P := Tryd.prog) w' 24 5 #[.int .u8 97, .int .u8 98, .int .u8 99, .int .u8 100] 4 4 (w.heap.size + 1) hg Tryd.underlying24 Tryd.underlying5
  go_enter Tryd.func5, Tryd.ntmps5
  go_wp2_with fail
  clear hmk hcv
  have z0 := start12_z w
  have r0 := start12_r w
  have x0 := start12_x w
  have f0 := start12_fr w
  change Calls _ _ _ (start12 w) _
  generalize start12 w = w1 at *
  have Z0 := Lib.hid z0
  have X0 := Lib.hid x0
  have F0 := Lib.hid f0
  have R0 := Lib.hid r0
  clear z0 x0 f0 r0
  refine (gnEncap_ok 5 (by omega) (by omega) R0.out (by omega) right12 Z0.out.bs (by omega) (by omega) (m := 30) (by decide)).mono ?_
  rintro e w2 ⟨a, cap, rfl, o2, f2, h2⟩
  have O2 := Lib.hid o2
  have F2 := Lib.hid (F0.out.then_no f2)
  have Z2 := Lib.hid (Z0.out.no f2)
  have X2 := Lib.hid (f2.heap X0.out (fun h => h))
  clear o2 f2 h2 F0 Z0 R0 X0
  go_wp2_with fail
  refine (gnDecap_any O2.out.bs (by omega)).mono ?_
  rw [show gnDec (gnOut 5 [opt12] zero14) = .ok 5 [opt12] zero14 from gnDec_out 5 (by omega) [opt12] right12 (by simp [opt12]) zero14 (by decide) (by decide)]
  rintro e w3 ⟨ao3, n3, cap3, ad3, g3, gc3, rfl, ro3, o3, f3, h3⟩
  have hn3 : n3 = 1 := ro3.len.symm
  subst hn3
  have RO3 := Lib.hid ro3
  have O3 := Lib.hid o3
  have F3 := Lib.hid (F2.out.then_no f3)
  have Z3 := Lib.hid (Z2.out.no f3)
  have X3 := Lib.hid (f3.heap X2.out (fun h => h))
  have O2' := Lib.hid (O2.out.no f3)
  clear ro3 o3 f3 h3 F2 Z2 X2 O2
  go_wp2_with fail
  have b7 := Z3.out.bs.cut 0 7 14 (by omega) (by omega) (by omega) (by omega) (a' := some ⟨w.heap.size, 0, none⟩) (by simp [Addr.add])
  refine (gnDecap_any b7 (by omega)).mono ?_
  rw [show gnDec ((zero14.drop 0).take (7 - 0)) = .no true 2 from by unfold gnDec; rfl]
  rintro e w4 ⟨b4, rfl, he4, f4⟩
  have F4 := Lib.hid (F3.out.then_no f4)
  have O2 := O2'.out.no f4
  have HE : Hid (Err w4 (.iface 82 (.pointer (some ⟨b4, 0, none⟩))) [geneveS, octetsS] 2) := Lib.hid he4
  have RO4 := RO3.out.no f4
  have X4 := f4.heap X3.out (fun h => h)
  have hz : zero14.length = 14 := rfl
  have c0 : w4.cell? ⟨a, 0, none⟩ = some (.int .u8 2) := O2.bs.at (j := 0) (c := 2) (by decide +kernel)
  have c1 : w4.cell? ⟨a, 1, none⟩ = some (.int .u8 64) := O2.bs.at (j := 1) (c := 64) (by decide +kernel)
  obtain ⟨g, o, p, rfl, ho, hp⟩ := RO4.get (i := 0) (by omega)
  simp at ho
  subst ho
  obtain ⟨d0, d1, d2⟩ := RO4.cells (i := 0) (o := opt12) rfl hp
  have d3 := (RO4.ob 0 opt12 p rfl hp).1
  replace d0 : w4.cell? ⟨g, 0, none⟩ = some (.int .u16 258) := d0
  replace d2 : w4.cell? ⟨g, 2, none⟩ = some (.slice p.1 4 p.2) := d2
  have hcv : (convert 24 9 (.slice p.1 4 p.2)).run Tryd.prog w4 = .ok (.string ⟨#[97, 98, 99, 100]⟩) w4 := run_bytes_string _ 24 9 5 d3.bs Tryd.underlying24 Tryd.underlying5 Tryd.underlying9
  obtain ⟨x0, x1, x2⟩ := cells3 X4
  have hmW := methodErrorW
  clear b7 he4 f4 O2 O2' F3 d1 d3 RO4 RO3 X3 Z3 O3 hp
  go_wp2_with (first
    | (go_at_call 91; refine (wrong_text (n := 2) HE.out (.inl (by decide)) short_two).mono ?_; rw [shown12_txt]; rintro e w5 ⟨rfl, m5, rfl⟩)
    | (go_at_call 19; refine (errIs_any (HE.out.no ((Fr.refl No w4).drewN m5)) 2).mono ?_; rintro e w6 ⟨rfl, rfl⟩)
    | (go_at_call 12; refine (critical12 _ _ _ _).mono ?_; rintro e w7 ⟨rfl, f7⟩; have F7 := Lib.hid f7; clear f7))
  go_ret
  exact ⟨rfl, (F4.out.drewN _).then_no F7.out⟩

end Go.Proofs.YtjbieljlhjfpiaaDoor

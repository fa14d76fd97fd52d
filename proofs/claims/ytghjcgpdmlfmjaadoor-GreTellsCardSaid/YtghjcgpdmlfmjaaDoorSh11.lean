/- The statements' own functions 'few' and 'shown' (layer 11). -/
import Derived.Test.YtghjcgpdmlfmjaaDoorVx
namespace Go.Proofs.YtghjcgpdmlfmjaaDoor
open Go.RowKit
set_option linter.unusedVariables false

theorem few11_any (ao : Option Addr) (n cap : Nat) (h : n ≤ cap) (hc : cap ≤ 9223372036854775807) (w : World) : Calls Tryd.prog 6 #[.slice ao n cap] w fun e w' => e = .returned (.slice ao (min n 10000) cap) ∧ w = w' := by
  by_cases h1 : n ≤ 10000
  · have e1 : min n 10000 = n := by omega
    have HE := Lib.hid e1
    clear e1
    go_enter Tryd.func6, Tryd.ntmps6
    go_wp2
    go_ret
    exact ⟨by rw [HE.out]; rfl, rfl⟩
  · have e1 : min n 10000 = 10000 := by omega
    have HE := Lib.hid e1
    clear e1
    have h2 : 10000 < n := by omega
    have h3 : 10000 ≤ cap := by omega
    go_enter Tryd.func6, Tryd.ntmps6
    go_wp2
    go_ret
    exact ⟨by rw [HE.out]; rfl, rfl⟩

theorem make14 (w : World) : (Instr.makeSlice 23 (.int .i64 14) (.int .i64 14)).run Tryd.prog w =
    .ok (.slice (some ⟨w.heap.size, 0, none⟩) 14 14) (w.alloc (.cells (List.replicate 14 (.int .u8 0)).toArray 5)) := by kernel_rfl

/-- Fourteen bytes of nothing. -/
def zero14 : List UInt8 := List.replicate 14 0

def ShownOk (w : World) (e : Ending) (w' : World) : Prop := e = .returned (.bool true) ∧ Fr No w w'

theorem short_two : Short [vxlanS, octetsS] := by
  refine ⟨fun s hs => ?_, by simp⟩
  simp only [List.mem_cons, List.not_mem_nil, or_false] at hs
  rcases hs with rfl | rfl <;> decide

theorem shown11_txt : txt [vxlanS, octetsS] 2 = ⟨#[118, 120, 108, 97, 110, 58, 32, 111, 99, 116, 101, 116, 115, 58, 32, 101, 114, 114, 111, 114, 32, 50]⟩ := by decide +kernel

set_option maxRecDepth 100000 in
theorem shown11_any (w : World) : Calls Tryd.prog 5 #[] w (ShownOk w) := by
  have hmk := make14
  go_enter Tryd.func5, Tryd.ntmps5
  go_wp2_with fail
  clear hmk
  have o0 : OB (w.alloc (.cells (List.replicate 14 (.int .u8 0)).toArray 5)) 5 (some ⟨w.heap.size, 0, none⟩) 14 14 zero14 := OB.made zero14 (by decide) (by rfl) rfl rfl
  have F0 : Hid (Fr No w (w.alloc (.cells (List.replicate 14 (.int .u8 0)).toArray 5))) := Lib.hid ((Fr.refl _ _).alloc _)
  have O0 := Lib.hid o0
  clear o0
  refine (vxEncap_ok 5 (by omega) (by omega) O0.out.bs (by omega) (by omega) (m := 22) rfl).mono ?_
  rintro e w2 ⟨a, cap, rfl, o2, f2, h2⟩
  have O2 := Lib.hid o2
  have F2 := Lib.hid (F0.out.then_no f2)
  have O0' := Lib.hid (O0.out.no f2)
  clear o2 f2 h2 O0 F0
  go_wp2_with fail
  refine (vxDecap_ok O2.out.bs (by omega) (by omega) (by decide +kernel) (i := 5) (m := 14) (vxOut_number 5 zero14 (by omega) (by omega)) rfl rfl).mono ?_
  rintro e w3 ⟨a3, cap3, rfl, o3, f3, h3⟩
  have F3 := Lib.hid (F2.out.then_no f3)
  have O0 := Lib.hid (O0'.out.no f3)
  have O2' := Lib.hid (O2.out.no f3)
  clear o3 f3 h3 O0' O2 F2
  go_wp2_with fail
  have b7 := O0.out.bs.cut 0 7 14 (by omega) (by omega) (by omega) (by omega) (a' := some ⟨w.heap.size, 0, none⟩) (by simp [Addr.add])
  refine (vxDecap_head b7 (by omega)).mono ?_
  rintro e w4 ⟨b4, rfl, he4, f4⟩
  have F4 := Lib.hid (F3.out.then_no f4)
  have O2 := O2'.out.no f4
  have HE := Lib.hid he4
  have c0 : w4.cell? ⟨a, 0, none⟩ = some (.int .u8 8) := O2.bs.at (j := 0) (c := 8) (by decide +kernel)
  have c6 : w4.cell? ⟨a, 6, none⟩ = some (.int .u8 5) := O2.bs.at (j := 6) (c := 5) (by decide +kernel)
  have hmW := methodErrorW
  clear b7 he4 f4 O0 O2 O2' F3
  go_wp2_with (first
    | (go_at_call 93; refine (wrong_text (n := 2) HE.out (.inl (by decide)) short_two).mono ?_; rw [shown11_txt]; rintro e w5 ⟨rfl, m5, rfl⟩)
    | (go_at_call 20; refine (errIs_any (HE.out.no ((Fr.refl No w4).drewN m5)) 2).mono ?_; rintro e w6 ⟨rfl, rfl⟩))
  go_ret
  exact ⟨rfl, F4.out.drewN _⟩

end Go.Proofs.YtghjcgpdmlfmjaaDoor

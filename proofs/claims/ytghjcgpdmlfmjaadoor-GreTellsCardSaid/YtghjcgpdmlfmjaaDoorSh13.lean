/- The statements' own functions 'few' and 'shown' (layer 13). -/
import Derived.Test.YtghjcgpdmlfmjaaDoorGreOrd
import Derived.Test.YtghjcgpdmlfmjaaDoorGre5
namespace Go.Proofs.YtghjcgpdmlfmjaaDoor
open Go.RowKit
set_option linter.unusedVariables false

theorem few13_any (ao : Option Addr) (n cap : Nat) (h : n ≤ cap) (hc : cap ≤ 9223372036854775807) (w : World) : Calls Tryd.prog 13 #[.slice ao n cap] w fun e w' => e = .returned (.slice ao (min n 10000) cap) ∧ w = w' := by
  by_cases h1 : n ≤ 10000
  · have e1 : min n 10000 = n := by omega
    have HE := Lib.hid e1
    clear e1
    go_enter Tryd.func13, Tryd.ntmps13
    go_wp2
    go_ret
    exact ⟨by rw [HE.out]; rfl, rfl⟩
  · have e1 : min n 10000 = 10000 := by omega
    have HE := Lib.hid e1
    clear e1
    have h2 : 10000 < n := by omega
    have h3 : 10000 ≤ cap := by omega
    go_enter Tryd.func13, Tryd.ntmps13
    go_wp2
    go_ret
    exact ⟨by rw [HE.out]; rfl, rfl⟩

theorem shown13_txt : txt [greS, octetsS] 2 = ⟨#[103, 114, 101, 58, 32, 111, 99, 116, 101, 116, 115, 58, 32, 101, 114, 114, 111, 114, 32, 50]⟩ := by decide +kernel
theorem short_gre : Short [greS, octetsS] := by
  refine ⟨fun s hs => ?_, by simp⟩
  simp only [List.mem_cons, List.not_mem_nil, or_false] at hs
  rcases hs with rfl | rfl <;> decide

/-- What shown takes out. -/
theorem shown13_out : gDec (greOut true true 5 false 0 zero14) = .ok true true 5 false 0 zero14 := gDec_out true true false 5 0 (by omega) (by omega) zero14 (by decide) (by decide)

theorem greOut_first (fs : List UInt8) : (greOut true true 5 false 0 fs)[0]? = some 160 := by
  obtain ⟨a, b, e, -⟩ := greOut_wire true true 5 false 0 fs
  rw [e]
  simp only [gWire, b2, List.cons_append, List.getElem?_cons_zero]
  decide +kernel
theorem Err.is_wrong {w : World} {v : Value} {s : ByteArray} {ls : List ByteArray} {n : Int} (h : Err w v (s :: ls) n) : ∃ b, v = .iface 83 (.pointer (some ⟨b, 0, none⟩)) := by
  cases h
  exact ⟨_, rfl⟩

theorem GOut.is {w w' : World} {r r' : GRes} {ls : List ByteArray} {e : Ending} (h : GOut w r ls e w') (hr : r = r') : GOut w r' ls e w' := hr ▸ h

set_option maxHeartbeats 1600000 in
set_option maxRecDepth 100000 in
theorem shown13_any (w : World) : Calls Tryd.prog 12 #[] w (ShownOk w) := by
  have hmk := make14
  go_enter Tryd.func12, Tryd.ntmps12
  go_wp2_with fail
  clear hmk
  have o0 : OB (w.alloc (.cells (List.replicate 14 (.int .u8 0)).toArray 5)) 5 (some ⟨w.heap.size, 0, none⟩) 14 14 zero14 := OB.made zero14 (by decide) (by rfl) rfl rfl
  have F0 : Hid (Fr No w (w.alloc (.cells (List.replicate 14 (.int .u8 0)).toArray 5))) := Lib.hid ((Fr.refl _ _).alloc _)
  have O0 := Lib.hid o0
  clear o0
  refine (gEncap_ok true true 5 false 0 (by omega) (by omega) (by omega) (by omega) O0.out.bs (by omega) (by omega) (m := 26) rfl).mono ?_
  rintro e w2 ⟨a, cap, rfl, o2, f2, h2⟩
  have O2 := Lib.hid o2
  have F2 := Lib.hid (F0.out.then_no f2)
  have O0' := Lib.hid (O0.out.no f2)
  clear o2 f2 h2 O0 F0
  go_wp2_with fail
  refine (gDecap_any O2.out.bs (by omega)).mono ?_
  rintro e w3 hr
  obtain ⟨a3, cap3, rfl, o3, f3, h3⟩ := hr.is shown13_out
  have F3 := Lib.hid (F2.out.then_no f3)
  have O0 := Lib.hid (O0'.out.no f3)
  have O2' := Lib.hid (O2.out.no f3)
  clear o3 f3 h3 O0' O2 F2 hr
  go_wp2_with fail
  have fa := (Fr.refl No w3).alloc (.cells #[.bool true, .bool true, .int .u32 5, .bool false, .int .u32 0] 40)
  have H4 := Lib.hid (heap_alloc_new w3 (.cells #[.bool true, .bool true, .int .u32 5, .bool false, .int .u32 0] 40))
  have F4 := Lib.hid (F3.out.then_no fa)
  have O0' := Lib.hid (O0.out.no fa)
  have O2 := Lib.hid (O2'.out.no fa)
  obtain ⟨hb8, hB8⟩ : ∃ b, b = w3.heap.size := ⟨_, rfl⟩
  rw [← hB8] at H4 ⊢
  generalize w3.alloc (.cells #[.bool true, .bool true, .int .u32 5, .bool false, .int .u32 0] 40) = w4 at *
  clear hB8 fa F3 O0 O2'
  have b7 := O0'.out.bs.cut 0 3 14 (by omega) (by omega) (by omega) (by omega) (a' := some ⟨w.heap.size, 0, none⟩) (by simp [Addr.add])
  refine (gDecap_any b7 (by omega)).mono ?_
  rintro e w5 hr
  obtain ⟨v5, rfl, he5, f5⟩ := hr.is (r' := .no true 2) (by unfold gDec; rw [if_pos (by decide)])
  obtain ⟨b5, rfl⟩ := Err.is_wrong (s := greS) (ls := [octetsS]) he5
  have H5 := Lib.hid (f5.heap H4.out (fun h => h))
  have F5 := Lib.hid (F4.out.then_no f5)
  have o2 := O2.out.no f5
  have HE : Hid (Err w5 (.iface 83 (.pointer (some ⟨b5, 0, none⟩))) [greS, octetsS] 2) := Lib.hid he5
  have c0 : w5.cell? ⟨a, 0, none⟩ = some (.int .u8 160) := o2.bs.at (j := 0) (c := 160) (greOut_first _)
  have hla : a < w5.heap.size := o2.2.lt _ rfl
  have hlb : hb8 < w5.heap.size := lt_of_heap H5.out
  obtain ⟨d0, d1, d2, d3, d4⟩ := cells5 H5.out
  have hmW := methodErrorW
  clear b7 f5 O0' O2 F4 H4 hr he5 o2 H5
  simp only [zeroH]
  rw [show zero14.length = 14 from rfl]
  go_wp2_with fail
  have OD : Hid (Od ((w5.alloc (.cells #[.bool false, .bool false, .int .u32 0, .bool false, .int .u32 0] 40)).alloc (.cells #[.pointer none] 72)) (w5.heap.size + 1) none) := by
    have := heap_alloc_new (w5.alloc (.cells #[.bool false, .bool false, .int .u32 0, .bool false, .int .u32 0] 40)) (.cells #[.pointer none] 72)
    have e : (w5.alloc (.cells #[.bool false, .bool false, .int .u32 0, .bool false, .int .u32 0] 40)).heap.size = w5.heap.size + 1 := by simp
    rw [e] at this
    exact Lib.hid this
  have fb := (Fr.refl No w5).alloc (.cells #[.bool false, .bool false, .int .u32 0, .bool false, .int .u32 0] 40)
  have fc := fb.alloc (.cells #[.pointer none] 72)
  have HE6 := Lib.hid (HE.out.no fc)
  have F6 := Lib.hid (F5.out.then_no fc)
  have hob : ¬ w5.heap.size + 1 < w.heap.size := by have := F5.out.size; omega
  have HOB := Lib.hid hob
  generalize (w5.alloc (.cells #[.bool false, .bool false, .int .u32 0, .bool false, .int .u32 0] 40)).alloc (.cells #[.pointer none] 72) = w6 at *
  generalize w5.heap.size + 1 = ob at *
  clear fb fc HE F5 c0 d0 d1 d2 d3 d4 hla hlb hob
  refine (wrong_text (n := 2) HE6.out (.inl (by decide)) short_gre).mono ?_
  rw [shown13_txt]
  rintro e w7 ⟨rfl, m7, rfl⟩
  have F7 := Lib.hid (F6.out.drewN m7)
  have HE7 := Lib.hid (HE6.out.no ((Fr.refl No w6).drewN m7))
  have OD7 := Lib.hid (OD.out.no ((Fr.refl No w6).drewN m7))
  clear F6 HE6 OD
  generalize w6.drewN m7 = w7 at *
  go_wp2_with fail
  refine (errIs_any HE7.out 2).mono ?_
  rintro e w8 ⟨rfl, rfl⟩
  clear HE7 hmW
  go_wp2_with fail
  refine (accept_any OD7.out (x := 7) (by omega) (by simp)).mono ?_
  rintro e w9 ⟨rfl, o9, f9⟩
  have F9 := Lib.hid (F7.out.then f9 (by rintro i hi rfl; exact HOB.out hi))
  have OD9 : Hid (Od w9 ob (some 7)) := Lib.hid o9
  rw [show acc none 7 = true from rfl]
  clear OD7 F7 o9 f9
  go_wp2_with fail
  refine (accept_any OD9.out (x := 9) (by omega) (by simp)).mono ?_
  rintro e w10 ⟨rfl, o10, f10⟩
  have F10 := Lib.hid (F9.out.then f10 (by rintro i hi rfl; exact HOB.out hi))
  have OD10 : Hid (Od w10 ob (some 9)) := Lib.hid o10
  rw [show acc (some 7) 9 = true from rfl]
  clear OD9 F9 o10 f10
  go_wp2_with fail
  refine (accept_any OD10.out (x := 8) (by omega) (by simp)).mono ?_
  rintro e w11 ⟨rfl, o11, f11⟩
  have F11 := Lib.hid (F10.out.then f11 (by rintro i hi rfl; exact HOB.out hi))
  rw [show acc (some 9) 8 = false from rfl]
  clear OD10 F10 o11 f11
  go_wp2_with fail
  go_ret
  exact ⟨rfl, F11.out⟩

end Go.Proofs.YtghjcgpdmlfmjaaDoor

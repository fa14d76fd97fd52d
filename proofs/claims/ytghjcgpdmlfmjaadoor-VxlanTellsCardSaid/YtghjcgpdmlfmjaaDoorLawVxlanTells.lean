/- VxlanTells: the walk. -/
import Derived.Test.YtghjcgpdmlfmjaaDoorVxTell
import Derived.Test.YtghjcgpdmlfmjaaDoorSh11
namespace Go.Proofs.YtghjcgpdmlfmjaaDoor
open Go.RowKit
set_option linter.unusedVariables false

theorem said11_any' {w : World} {ev : Value} {inner i : Bool} {c : Int} (hg : EG w) (h : SaidIs w vxlanS ev inner c) (e : inner = i) : Calls Tryd.prog 11 #[ev, .int .i64 c, .bool i] w (SaidOk w) := by
  subst e
  exact said11_any hg h

set_option maxHeartbeats 1600000 in
set_option maxRecDepth 100000 in
theorem VxlanTells_walk {w : World} {ao : Option Addr} {n cap : Nat} {fs : List UInt8} (hg : EG w) (id : Int) (hi0 : 0 ≤ id) (hi1 : id < 4294967296) (hb : Bs w ao n cap fs) : Calls Tryd.prog 3 #[.int .u32 id, .slice ao n cap] w (ShownOk w) := by
  have hle := hb.2.le
  have hcc := hb.2.capLe
  have hb2 : Bs w ao (min n 10000) cap (fs.take (min n 10000)) := by
    have := hb.cut 0 (min n 10000) cap (by omega) (by omega) (by omega) (by omega) (a' := ao) (by cases ao <;> simp [Addr.add])
    simpa using this
  have HB := Lib.hid hb2
  have HG := Lib.hid hg
  have hm1 : min n 10000 ≤ 10000 := by omega
  clear hb hb2 hg
  generalize hmm : min n 10000 = m at *
  have HMM := Lib.hid hmm
  generalize fs.take m = bs at *
  clear hmm
  have hbl : bs.length ≤ 10000 := by rw [← HB.out.1]; exact hm1
  have hcv := fun (wx : World) (a : Option Addr) (m c : Nat) (bs : List UInt8) (h : Bs wx a m c bs) => run_bytes_string (P := Tryd.prog) wx 23 9 5 h Tryd.underlying23 Tryd.underlying5 Tryd.underlying9
  have HCV := Lib.hid hcv
  clear hcv
  generalize hr : encR id bs = r
  generalize hd : decR bs = d
  have HR := Lib.hid hr
  have HD := Lib.hid hd
  clear hr hd
  obtain ⟨y, f⟩ := r
  obtain ⟨i, q, h⟩ := d
  go_enter Tryd.func3, Tryd.ntmps3
  go_wp2_with fail
  go_at_call 5
  refine (shown11_any _).mono ?_
  rintro e w1 ⟨rfl, f1⟩
  have F1 := Lib.hid f1
  clear f1
  go_wp2_with fail
  go_at_call 6
  refine (few11_any _ _ _ hle hcc _).mono ?_
  rw [HMM.out]
  rintro e w2 ⟨rfl, rfl⟩
  go_wp2_with fail
  go_at_call 7
  refine (vxEnc_any id hi0 hi1 (HB.out.no F1.out)).mono ?_
  rw [HR.out]
  rintro e w3 ⟨sx, mx, cx, ev, rfl, bx, se, f3⟩
  have F3 := Lib.hid (F1.out.then_no f3)
  have BX := Lib.hid bx
  have SE := Lib.hid se
  have s3 := HCV.out w3 _ _ _ _ (HB.out.no F3.out)
  clear f3 bx se
  go_wp2_with fail
  go_at_call 8
  refine (ref11Encap_any id hi0 hi1 bs hbl _).mono ?_
  rw [HR.out]
  rintro e w4 ⟨rfl, f4⟩
  have F4 := Lib.hid (F3.out.then_no f4)
  have BX4 := Lib.hid (BX.out.no f4)
  have SE4 := Lib.hid (SE.out.no f4)
  clear f4 s3
  go_wp2_with fail
  go_at_call 9
  refine (vxDec_any (HB.out.no F4.out) hm1).mono ?_
  rw [HD.out]
  rintro e w5 ⟨sp, mp, cp, eg, rfl, bp, sg, f5⟩
  have F5 := Lib.hid (F4.out.then_no f5)
  have BX5 := Lib.hid (BX4.out.no f5)
  have SE5 := Lib.hid (SE4.out.no f5)
  have BP5 := Lib.hid bp
  have SG5 := Lib.hid sg
  have s5 := HCV.out w5 _ _ _ _ (HB.out.no F5.out)
  clear f5 bp sg
  go_wp2_with fail
  go_at_call 10
  refine (ref11Decap_any bs hbl _).mono ?_
  rw [HD.out]
  rintro e w6 ⟨rfl, f6⟩
  have F6 := Lib.hid (F5.out.then_no f6)
  have SE6 := Lib.hid (SE5.out.no f6)
  have BP6 := Lib.hid (BP5.out.no f6)
  have SG6 := Lib.hid (SG5.out.no f6)
  have s6 := HCV.out w6 _ _ _ _ (BX5.out.no f6)
  clear f6 s5
  go_wp2_with fail
  go_at_call 11
  have tk := SE6
  refine (said11_any (HG.out.no F6.out) SE6.out).mono ?_
  rintro e w7 ⟨rfl, f7⟩
  have F7 := Lib.hid (F6.out.then_no f7)
  have SG7 := Lib.hid (SG6.out.no f7)
  have s7 := HCV.out w7 _ _ _ _ (BP6.out.no f7)
  clear f7 s6 SE6 tk
  go_wp2_with fail
  go_at_call 11
  refine (said11_any' (HG.out.no F7.out) SG7.out (by rw [decide_eq_decide]; omega)).mono ?_
  rintro e w8 ⟨rfl, f8⟩
  have F8 := Lib.hid (F7.out.then_no f8)
  clear f8
  go_wp2_with fail
  go_ret
  exact ⟨rfl, F8.out⟩

end Go.Proofs.YtghjcgpdmlfmjaaDoor

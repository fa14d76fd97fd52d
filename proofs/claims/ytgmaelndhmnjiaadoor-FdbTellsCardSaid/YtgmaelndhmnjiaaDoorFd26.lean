/- fdb: shown. -/
import Derived.Test.YtgmaelndhmnjiaaDoorFd25
namespace Go.Proofs.YtgmaelndhmnjiaaDoor
open Go.RowKit
set_option linter.unusedVariables false
set_option linter.unusedSimpArgs false

/-- The variable api.All. -/
def EG (w : World) : Prop := ∀ i, i < 6 → w.cell? ⟨0, i, none⟩ = some (.int .u8 255)
theorem EG.no {w w' : World} (h : EG w) (hf : Fr No w w') : EG w' := fun i hi => hf.cell (h i hi) (fun h => h)
theorem EG.cells {w : World} (h : EG w) : w.cell? ⟨0, 0, none⟩ = some (.int .u8 255) ∧ w.cell? ⟨0, 1, none⟩ = some (.int .u8 255) ∧ w.cell? ⟨0, 2, none⟩ = some (.int .u8 255) ∧ w.cell? ⟨0, 3, none⟩ = some (.int .u8 255) ∧ w.cell? ⟨0, 4, none⟩ = some (.int .u8 255) ∧ w.cell? ⟨0, 5, none⟩ = some (.int .u8 255) :=
  ⟨h 0 (by omega), h 1 (by omega), h 2 (by omega), h 3 (by omega), h 4 (by omega), h 5 (by omega)⟩

def mac1 (x : UInt8) : Mac := ⟨x, 0, 0, 0, 0, 0⟩
def sA1 : AL := [⟨mac1 2, false, 3, 5, false⟩]
def sA2 : AL := [⟨mac1 2, true, 3, 6, false⟩]
def sA3 : AL := [⟨mac1 2, true, 3, 6, false⟩, ⟨mac1 4, false, 3, 0, true⟩]
def sA4 : AL := [⟨mac1 4, false, 3, 0, true⟩, ⟨mac1 6, false, 3, 7, false⟩]
theorem s1 : alearn 2 [] (mac1 2) ⟨false, 3⟩ 5 = (false, 0, sA1) := by decide +kernel
theorem s2 : alearn 2 sA1 (mac1 2) ⟨true, 3⟩ 6 = (true, 0, sA2) := by decide +kernel
theorem s3 : alearn 2 sA2 ⟨255, 255, 255, 255, 255, 255⟩ ⟨true, 3⟩ 6 = (false, 1, sA2) := by decide +kernel
theorem s4 : afind 10 sA2 (mac1 2) 15 = some ⟨true, 3⟩ := by decide +kernel
theorem s5 : afind 10 sA2 (mac1 2) 16 = none := by decide +kernel
theorem s6 : astatic 2 sA2 (mac1 4) ⟨false, 3⟩ = (0, sA3) := by decide +kernel
theorem s7 : alearn 2 sA3 (mac1 6) ⟨false, 3⟩ 7 = (false, 0, sA4) := by decide +kernel
theorem evM_eq (a b c d e f : UInt8) : evM ⟨a, b, c, d, e, f⟩ = .agg #[.int .u8 a.toNat, .int .u8 b.toNat, .int .u8 c.toNat, .int .u8 d.toNat, .int .u8 e.toNat, .int .u8 f.toNat] := rfl
set_option maxRecDepth 100000 in
set_option maxHeartbeats 8000000 in
theorem l15shown_any {w : World} (hg : EG w) : Calls Tryd.prog 8 #[] w fun e w' => e = .returned (.bool true) ∧ Fr No w w' := by
  have HGA := Lib.hid hg
  clear hg
  go_enter Tryd.func8, Tryd.ntmps8
  go_wp2_with fail
  refine (fbNew_n w 2 10 (by omega) (by omega) (r := 2) (by decide)).mono ?_
  rintro e w1 ⟨tb, mb, rfl, h1, f1⟩
  have H1 := Lib.hid h1
  have F1 := Lib.hid f1
  clear h1 f1
  go_wp2_with fail
  obtain ⟨o1, ho1⟩ : ∃ o : Obj, o = .cells #[.bool false, .int .i64 3] 33 := ⟨_, rfl⟩
  obtain ⟨o2, ho2⟩ : ∃ o : Obj, o = .cells #[.bool true, .int .i64 3] 33 := ⟨_, rfl⟩
  rw [← ho1, ← ho2]
  have f2 := ((Fr.refl No w1).alloc o1).alloc o2
  have b1 : ((w1.alloc o1).alloc o2).heap[w1.heap.size]? = some o1 := ((Fr.refl No _).alloc o2).heap (heap_alloc_new w1 o1) (fun h => h)
  have b2 : ((w1.alloc o1).alloc o2).heap[w1.heap.size + 1]? = some o2 := by
    have h1 := heap_alloc_new (w1.alloc o1) o2
    rwa [show (w1.alloc o1).heap.size = w1.heap.size + 1 from by simp] at h1
  have H2 := Lib.hid (H1.out.no f2)
  have F2 := Lib.hid (F1.out.then_no f2)
  subst ho1 ho2
  have B1 := Lib.hid b1
  have B2 := Lib.hid b2
  clear f2 b1 b2 H1 F1
  generalize w1.heap.size = pb at B1 B2 ⊢
  generalize World.alloc _ _ = w2 at B1 B2 H2 F2 ⊢
  refine (fbLearn_n H2.out (mac1 2) ⟨false, 3⟩ (now := 5) (by omega) (by omega) (by decide) s1).mono ?_
  rintro e w3 ⟨rfl, h3, f3, k3⟩
  have H3 := Lib.hid h3
  have F3 := Lib.hid (F2.out.upn f3)
  have P3 := Lib.hid (k3 _ _ B1.out rfl)
  have Q3 := Lib.hid (k3 _ _ B2.out rfl)
  clear h3 f3 k3 H2 F2 B1 B2
  obtain ⟨q0, q1⟩ := cells2 Q3.out
  go_wp2_with fail
  refine (fbLearn_n H3.out (mac1 2) ⟨true, 3⟩ (now := 6) (by omega) (by omega) (by decide) s2).mono ?_
  rintro e w4 ⟨rfl, h4, f4, k4⟩
  have H4 := Lib.hid h4
  have F4 := Lib.hid (F3.out.upn f4)
  have P4 := Lib.hid (k4 _ _ P3.out rfl)
  have Q4 := Lib.hid (k4 _ _ Q3.out rfl)
  clear h4 f4 k4 H3 F3 P3 Q3 q0 q1
  obtain ⟨q0, q1⟩ := cells2 Q4.out
  obtain ⟨g0, g1, g2, g3, g4, g5⟩ := (HGA.out.no F4.out).cells
  go_wp2_with fail
  refine (fbLearn_n H4.out ⟨255, 255, 255, 255, 255, 255⟩ ⟨true, 3⟩ (now := 6) (by omega) (by omega) (by decide) s3).mono ?_
  rintro e w5 ⟨rfl, h5, f5, k5⟩
  have H5 := Lib.hid h5
  have F5 := Lib.hid (F4.out.upn f5)
  have P5 := Lib.hid (k5 _ _ P4.out rfl)
  have Q5 := Lib.hid (k5 _ _ Q4.out rfl)
  clear h5 f5 k5 H4 F4 P4 Q4 q0 q1 g0 g1 g2 g3 g4 g5
  go_wp2_with fail
  refine (fbFind_n H5.out (mac1 2) (now := 15) (by omega) (by omega) s4).mono ?_
  rintro e w6 ⟨rfl, f6⟩
  have H6 := Lib.hid (H5.out.no f6)
  have F6 := Lib.hid (F5.out.then_no f6)
  have P6 := Lib.hid (f6.heap P5.out (fun h => h))
  have Q6 := Lib.hid (f6.heap Q5.out (fun h => h))
  clear f6 H5 F5 P5 Q5
  simp only [Option.getD_some, Option.isSome_some, evPL]
  go_wp2_with fail
  have f6 := (Fr.refl No w6).alloc (.cells #[.bool true, .int .i64 3] 33)
  have X6 := Lib.hid (heap_alloc_new w6 (.cells #[.bool true, .int .i64 3] 33))
  have H7 := Lib.hid (H6.out.no f6)
  have F7 := Lib.hid (F6.out.then_no f6)
  have P7 := Lib.hid (f6.heap P6.out (fun h => h))
  have Q7 := Lib.hid (f6.heap Q6.out (fun h => h))
  clear f6 H6 F6 P6 Q6
  generalize w6.heap.size = xb at X6 ⊢
  generalize w6.alloc (.cells #[.bool true, .int .i64 3] 33) = w7 at X6 H7 F7 P7 Q7 ⊢
  refine (fbFind_n H7.out (mac1 2) (now := 16) (by omega) (by omega) s5).mono ?_
  rintro e w8 ⟨rfl, f8⟩
  have H8 := Lib.hid (H7.out.no f8)
  have F8 := Lib.hid (F7.out.then_no f8)
  have P8 := Lib.hid (f8.heap P7.out (fun h => h))
  have Q8 := Lib.hid (f8.heap Q7.out (fun h => h))
  have X8 := Lib.hid (f8.heap X6.out (fun h => h))
  clear f8 H7 F7 P7 Q7 X6
  simp only [Option.getD_none, Option.isSome_none, evPL]
  obtain ⟨p0, p1⟩ := cells2 P8.out
  have hpb := lt_of_heap P8.out
  go_wp2_with fail
  have f9 := (Fr.refl No w8).alloc (.cells #[.bool false, .int .i64 0] 33)
  have H9 := Lib.hid (H8.out.no f9)
  have F9 := Lib.hid (F8.out.then_no f9)
  have P9 := Lib.hid (f9.heap P8.out (fun h => h))
  have Q9 := Lib.hid (f9.heap Q8.out (fun h => h))
  have X9 := Lib.hid (f9.heap X8.out (fun h => h))
  clear f9 H8 F8 P8 Q8 X8 p0 p1 hpb
  generalize w8.heap.size = yb
  generalize w8.alloc (.cells #[.bool false, .int .i64 0] 33) = w9 at H9 F9 P9 Q9 X9 ⊢
  refine (fbStatic_n H9.out (mac1 4) ⟨false, 3⟩ (by decide) s6).mono ?_
  rintro e w10 ⟨rfl, h10, f10, k10⟩
  have H10 := Lib.hid h10
  have F10 := Lib.hid (F9.out.upn f10)
  have P10 := Lib.hid (k10 _ _ P9.out rfl)
  have Q10 := Lib.hid (k10 _ _ Q9.out rfl)
  have X10 := Lib.hid (k10 _ _ X9.out rfl)
  clear h10 f10 k10 H9 F9 P9 Q9 X9
  obtain ⟨p0, p1⟩ := cells2 P10.out
  go_wp2_with fail
  refine (fbLearn_n H10.out (mac1 6) ⟨false, 3⟩ (now := 7) (by omega) (by omega) (by decide) s7).mono ?_
  rintro e w11 ⟨rfl, h11, f11, k11⟩
  have H11 := Lib.hid h11
  have F11 := Lib.hid (F10.out.upn f11)
  have Q11 := Lib.hid (k11 _ _ Q10.out rfl)
  have X11 := Lib.hid (k11 _ _ X10.out rfl)
  clear h11 f11 k11 H10 F10 P10 Q10 X10 p0 p1
  go_wp2_with fail
  refine (fbList_n H11.out).mono ?_
  rintro e w12 ⟨ao, cap, rfl, ho, hn, f12⟩
  obtain ⟨lb, rfl, c1⟩ := own_entry ho (i := 0) (e := ⟨mac1 4, false, 3, 0, true⟩) rfl
  obtain ⟨lb', hlb, c2⟩ := own_entry ho (i := 1) (e := ⟨mac1 6, false, 3, 7, false⟩) rfl
  cases hlb
  have d9 := c1 9 _ rfl
  have e0 := c2 0 _ rfl
  have e1 := c2 1 _ rfl
  have e2 := c2 2 _ rfl
  have e3 := c2 3 _ rfl
  have e4 := c2 4 _ rfl
  have e5 := c2 5 _ rfl
  have F12 := Lib.hid (F11.out.then_no f12)
  have hcap := Lib.hid ho.le
  obtain ⟨q0, q1⟩ := cells2 (f12.heap Q11.out (fun h => h))
  obtain ⟨x0, x1⟩ := cells2 (f12.heap X11.out (fun h => h))
  have hpl := eqPl ⟨true, 3⟩ ⟨true, 3⟩
  have hma : ∀ w, (binOp .eql 31 (.agg #[.int .u8 6, .int .u8 0, .int .u8 0, .int .u8 0, .int .u8 0, .int .u8 0]) (.agg #[.int .u8 6, .int .u8 0, .int .u8 0, .int .u8 0, .int .u8 0, .int .u8 0])).run Tryd.prog w = .ok (.bool true) w := fun w => eqM (mac1 6) (mac1 6) w
  simp only [evPL, decide_true] at hpl
  simp only [mac1, byteV] at d9 e0 e1 e2 e3 e4 e5
  clear ho hn f12 c1 c2 H11 F11 Q11 X11
  rw [show sA4.length = 2 from rfl] at hcap ⊢
  have hcap := hcap.out
  go_wp2_with fail
  go_ret
  exact ⟨rfl, F12.out⟩
end Go.Proofs.YtgmaelndhmnjiaaDoor

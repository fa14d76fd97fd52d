/- GreTells: the walk. -/
import Derived.Test.YtghjcgpdmlfmjaaDoorGreTell
namespace Go.Proofs.YtghjcgpdmlfmjaaDoor
open Go.RowKit
set_option linter.unusedVariables false

set_option maxHeartbeats 1600000 in
set_option maxRecDepth 100000 in
theorem GreTells_walk {w : World} {ao : Option Addr} {n cap : Nat} {fs : List UInt8} (hg : EG w) (s k : Bool) (key : Nat) (q : Bool) (seq : Nat) (hk : key < 4294967296) (hq : seq < 4294967296) (hb : Bs w ao n cap fs) :
    Calls Tryd.prog 4 #[.agg #[.bool s, .bool k, .int .u32 key, .bool q, .int .u32 seq], .slice ao n cap] w (SaidOk w) := by
  have hle := hb.2.le
  have hcc := hb.2.capLe
  have hb2 : Bs w ao (min n 10000) cap (fs.take (min n 10000)) := by
    have := hb.cut 0 (min n 10000) cap (by omega) (by omega) (by omega) (by omega) (a' := ao) (by cases ao <;> simp [Addr.add])
    simpa using this
  have HB := Lib.hid hb2
  have HG := Lib.hid hg
  have hm1 : min n 10000 ≤ 10000 := by omega
  clear hb hb2 hg
  generalize hmm : min n 10000 = m at *
  have HMM := Lib.hid hmm
  generalize fs.take m = bs at *
  clear hmm
  have hbl : bs.length ≤ 10000 := by rw [← HB.out.1]; exact hm1
  have hcv := fun (wx : World) (a : Option Addr) (m c : Nat) (bs : List UInt8) (h : Bs wx a m c bs) => run_bytes_string (P := Tryd.prog) wx 23 9 5 h Tryd.underlying23 Tryd.underlying5 Tryd.underlying9
  have HCV := Lib.hid hcv
  clear hcv
  obtain ⟨r, hr⟩ : ∃ r, greR s k key q seq bs = r := ⟨_, rfl⟩
  obtain ⟨d, hd⟩ : ∃ d, gDec bs = d := ⟨_, rfl⟩
  obtain ⟨hs, hk', hkey, hq', hseq, hdv⟩ := hdrV_agg d
  have HR := Lib.hid hr
  have HD := Lib.hid hd
  have HV := Lib.hid hdv
  clear hr hd hdv
  obtain ⟨y, f⟩ := r
  have X0 := Lib.hid (heap_alloc_new w (.cells #[.bool s, .bool k, .int .u32 key, .bool q, .int .u32 seq] 40))
  have F0 := Lib.hid ((Fr.refl No w).alloc (.cells #[.bool s, .bool k, .int .u32 key, .bool q, .int .u32 seq] 40))
  go_enter Tryd.func4, Tryd.ntmps4
  go_wp2_with fail
  generalize w.alloc (.cells #[.bool s, .bool k, .int .u32 key, .bool q, .int .u32 seq] 40) = w0 at *
  go_at_call 12
  refine (shown13_any _).mono ?_
  rintro e w1 ⟨rfl, f1⟩
  have F1 := Lib.hid (F0.out.then_no f1)
  have x1 := f1.heap X0.out (fun h => h)
  have X1 := Lib.hid x1
  obtain ⟨c0, c1, c2, c3, c4⟩ := cells5 x1
  clear f1 X0 F0 x1
  go_wp2_with fail
  go_at_call 13
  refine (few13_any _ _ _ hle hcc _).mono ?_
  rw [HMM.out]
  rintro e w2 ⟨rfl, rfl⟩
  go_wp2_with fail
  go_at_call 14
  refine (grEnc_any s k key q seq (by omega) (by omega) (by omega) (by omega) (HB.out.no F1.out)).mono ?_
  rw [HR.out]
  rintro e w3 ⟨sx, mx, cx, ev, rfl, bx, se, f3⟩
  have F3 := Lib.hid (F1.out.then_no f3)
  have BX := Lib.hid bx
  have SE := Lib.hid se
  have s3 := HCV.out w3 _ _ _ _ (HB.out.no F3.out)
  have x3 := f3.heap X1.out (fun h => h)
  clear f3 bx se X1 F1 c0 c1 c2 c3 c4
  obtain ⟨c0, c1, c2, c3, c4⟩ := cells5 x3
  clear x3
  go_wp2_with fail
  go_at_call 15
  refine (ref13Encap_any s k key q seq (by omega) (by omega) (by omega) (by omega) bs hbl _).mono ?_
  rw [HR.out]
  rintro e w4 ⟨rfl, f4⟩
  have F4 := Lib.hid (F3.out.then_no f4)
  have BX4 := Lib.hid (BX.out.no f4)
  have SE4 := Lib.hid (SE.out.no f4)
  clear f4 s3 F3 BX SE c0 c1 c2 c3 c4
  go_wp2_with fail
  go_at_call 16
  refine (grDec_any (HB.out.no F4.out) hm1).mono ?_
  rw [HD.out]
  rintro e w5 ⟨sp, mp, cp, eg, rfl, bp, sg, f5⟩
  rw [HV.out]
  have nx := (Fr.refl No w5).alloc (.cells #[.bool hs, .bool hk', .int .u32 hkey, .bool hq', .int .u32 hseq] 40)
  have X5 := Lib.hid (heap_alloc_new w5 (.cells #[.bool hs, .bool hk', .int .u32 hkey, .bool hq', .int .u32 hseq] 40))
  have F5 := Lib.hid ((F4.out.then_no f5).then_no nx)
  have BX5 := Lib.hid ((BX4.out.no f5).no nx)
  have SE5 := Lib.hid ((SE4.out.no f5).no nx)
  have BP5 := Lib.hid (bp.no nx)
  have SG5 := Lib.hid (sg.no nx)
  have s5 := HCV.out _ _ _ _ _ (HB.out.no F5.out)
  clear f5 bp sg nx BX4 SE4 F4
  go_wp2_with fail
  go_at_call 17
  refine (ref13Decap_any bs hbl _).mono ?_
  rw [HD.out]
  rintro e w6 ⟨rfl, f6⟩
  rw [HV.out]
  have x5 := f6.heap X5.out (fun h => h)
  have nx := (Fr.refl No w6).alloc (.cells #[.bool hs, .bool hk', .int .u32 hkey, .bool hq', .int .u32 hseq] 43)
  have X6 := Lib.hid (nx.heap x5 (fun h => h))
  have Y6 := Lib.hid (heap_alloc_new w6 (.cells #[.bool hs, .bool hk', .int .u32 hkey, .bool hq', .int .u32 hseq] 43))
  have F6 := Lib.hid ((F5.out.then_no f6).then_no nx)
  have BX6 := Lib.hid ((BX5.out.no f6).no nx)
  have SE6 := Lib.hid ((SE5.out.no f6).no nx)
  have BP6 := Lib.hid ((BP5.out.no f6).no nx)
  have SG6 := Lib.hid ((SG5.out.no f6).no nx)
  go_upto_region 7 with fail
  obtain ⟨hb6, hB6⟩ : ∃ b, b = w6.heap.size := ⟨_, rfl⟩
  obtain ⟨hb5, hB5⟩ : ∃ b, b = w5.heap.size := ⟨_, rfl⟩
  rw [← hB6] at Y6 ⊢
  rw [← hB5] at X6 ⊢
  generalize w6.alloc (.cells #[.bool hs, .bool hk', .int .u32 hkey, .bool hq', .int .u32 hseq] 43) = w7 at *
  have s6 := HCV.out _ _ _ _ _ BX6.out
  clear f6 nx x5 X5 BX5 SE5 BP5 SG5 s5 F5 hB6 hB5
  go_wp2_with fail
  go_at_call 18
  refine (said13_any (HG.out.no F6.out) SE6.out).mono ?_
  rintro e w8 ⟨rfl, f8⟩
  have F8 := Lib.hid (F6.out.then_no f8)
  have SG8 := Lib.hid (SG6.out.no f8)
  have BP8 := Lib.hid (BP6.out.no f8)
  have x8 := f8.heap X6.out (fun h => h)
  have y8 := f8.heap Y6.out (fun h => h)
  clear f8 s6 SE6 SG6 BP6 F6
  obtain ⟨c0, c1, c2, c3, c4⟩ := cells5 x8
  obtain ⟨d0, d1, d2, d3, d4⟩ := cells5 y8
  clear x8 y8 X6 Y6
  go_wp2_with fail
  go_at_call 19
  refine (same13_agg _ _ _ _ _ _).mono ?_
  rintro e w9 ⟨rfl, f9⟩
  have F9 := Lib.hid (F8.out.then_no f9)
  have SG9 := Lib.hid (SG8.out.no f9)
  have s9 := HCV.out _ _ _ _ _ (BP8.out.no f9)
  clear f9 SG8 F8 c0 c1 c2 c3 c4 d0 d1 d2 d3 d4
  go_wp2_with fail
  go_at_call 18
  refine (said13_any (HG.out.no F9.out) SG9.out).mono ?_
  rintro e w10 ⟨rfl, f10⟩
  have F10 := Lib.hid (F9.out.then_no f10)
  clear f10
  go_wp2_with fail
  go_ret
  exact ⟨rfl, F10.out⟩

end Go.Proofs.YtghjcgpdmlfmjaaDoor

/- GreAgain: its walk. -/
import Derived.Test.YtghjcgpdmlfmjaaLawGreBack
namespace Go.Proofs.Ytghjcgpdmlfmjaa
open Go.RowKit
set_option linter.unusedVariables false

set_option maxHeartbeats 1600000 in
set_option maxRecDepth 100000 in
theorem GreAgain_walk {w : World} {ao : Option Addr} {n cap : Nat} {bs : List UInt8} (hb : Bs w ao n cap bs) :
    Calls Try.prog 9 #[.slice ao n cap] w (LawOk w) := by
  have hle := hb.2.le
  have hcc := hb.2.capLe
  obtain ⟨m, hm⟩ : ∃ m, m = min n 10000 := ⟨_, rfl⟩
  have hm2 : m ≤ 10000 := by omega
  have hbm : Bs w ao m cap (bs.take m) := by
    have := hb.cut 0 m cap (by omega) (by omega) (by omega) (by omega) (a' := ao) (by cases ao <;> simp [Addr.add])
    simpa using this
  have HB := Lib.hid hbm
  have HM := Lib.hid hm
  have hN : (bs.take m).length = m := hbm.1.symm
  have HN := Lib.hid hN
  clear hb hm hbm hN
  generalize bs.take m = l at *
  have hcv := fun (wx : World) (a : Option Addr) (m c : Nat) (bs : List UInt8) (h : Bs wx a m c bs) => run_bytes_string (P := Try.prog) wx 23 9 5 h Try.underlying23 Try.underlying5 Try.underlying9
  have HCV := Lib.hid hcv
  clear hcv
  go_enter Try.func9, Try.ntmps9
  go_wp2_with (first
    | (go_at_call 18; refine (shown13_any _).mono ?_; rintro e w1 ⟨rfl, f1⟩; have F1 := Lib.hid f1; clear f1)
    | (go_at_call 19; refine (few13_any _ _ _ hle hcc _).mono ?_; rw [← HM.out]; rintro e w2 ⟨rfl, rfl⟩))
  refine (gDecap_any (HB.out.no F1.out) (by omega)).mono ?_
  cases hg : gDec l with
  | no inner code =>
    rintro e w3 ⟨v, rfl, he, f3⟩
    obtain ⟨b5, rfl⟩ := Err.is_wrong (s := greS) he
    have F3 := Lib.hid ((F1.out.then_no f3).alloc (.cells #[.bool false, .bool false, .int .u32 0, .bool false, .int .u32 0] 38))
    clear he f3 hg
    simp only [zeroH]
    go_wp2_with fail
    go_ret
    exact ⟨rfl, F3.out⟩
  | ok s k key q seq fs =>
    rintro e w3 ⟨g, c, rfl, o3, f3, h3⟩
    obtain ⟨a1, a2, a3, a4, a5, a6, a7⟩ := gDec_is hg
    have e3 : (if k = true then key else 0) = key := by cases k <;> simp_all
    have e4 : (if q = true then seq else 0) = seq := by cases q <;> simp_all
    have D := gDec_out s k q key seq a1 a2 fs a5 a6
    rw [e3, e4] at D
    have D := Lib.hid D
    obtain ⟨p, hp⟩ : ∃ p, p = fs.length := ⟨_, rfl⟩
    obtain ⟨hd, hhd⟩ : ∃ hd, hd = greHead s k q := ⟨_, rfl⟩
    have hd1 : 4 ≤ hd ∧ hd ≤ 16 := by rw [hhd]; exact greHead_le _ _ _
    rw [← hp] at o3 ⊢
    have hmp : m = hd + p := by rw [hp, hhd, ← a7, HN.out]
    have hp1 : 14 ≤ p ∧ p ≤ 9000 := by omega
    have HP := Lib.hid hp
    have HHD := Lib.hid hhd
    have fa := (Fr.refl No w3).alloc (.cells #[.bool s, .bool k, .int .u32 key, .bool q, .int .u32 seq] 38)
    have F3 := Lib.hid ((F1.out.then_no f3).then_no fa)
    have O3 := Lib.hid (o3.no fa)
    have X3 := Lib.hid (heap_alloc_new w3 (.cells #[.bool s, .bool k, .int .u32 key, .bool q, .int .u32 seq] 38))
    clear o3 f3 h3 hg a3 a4 a5 a6 a7 e3 e4 hp hhd fa
    go_wp2_with fail
    obtain ⟨hb8, hB8⟩ : ∃ b, b = w3.heap.size := ⟨_, rfl⟩
    rw [← hB8] at X3 ⊢
    generalize w3.alloc (.cells #[.bool s, .bool k, .int .u32 key, .bool q, .int .u32 seq] 38) = w4 at *
    clear hB8
    refine (gEncap_ok s k key q seq (by omega) (by omega) (by omega) (by omega) O3.out.bs hp1.1 hp1.2 (m := hd + p) (by rw [HHD.out])).mono ?_
    rintro e w5 ⟨g5, c5, rfl, o5, f5, h5⟩
    have O5 := Lib.hid o5
    have O3' := Lib.hid (O3.out.no f5)
    have F5 := Lib.hid (F3.out.then_no f5)
    have X5 := Lib.hid (f5.heap X3.out (fun h => h))
    clear o5 f5 h5 O3 F3 X3
    go_wp2_with fail
    refine (gDecap_any O5.out.bs (by omega)).mono ?_
    rintro e w6 hr
    obtain ⟨g6, c6, rfl, o6, f6, h6⟩ := hr.is D.out
    rw [← HP.out] at o6 ⊢
    have fa := (Fr.refl No w6).alloc (.cells #[.bool s, .bool k, .int .u32 key, .bool q, .int .u32 seq] 38)
    have F6 := Lib.hid ((F5.out.then_no f6).then_no fa)
    have X6 := f6.heap X5.out (fun h => h)
    obtain ⟨c0, c1, c2, c3, c4⟩ := cells5 X6
    have hx6 := lt_of_heap X6
    have s1 := HCV.out _ _ _ _ _ (o6.no fa).bs
    have s2 := HCV.out _ _ _ _ _ ((O3'.out.no f6).no fa).bs
    clear hr o6 f6 h6 fa O5 O3' F5 X5 X6
    go_wp2_with (go_at_call 19; refine (few13_any _ _ _ hle hcc _).mono ?_; rw [← HM.out]; rintro e w2 ⟨rfl, rfl⟩)
    go_ret
    exact ⟨rfl, F6.out⟩

end Go.Proofs.Ytghjcgpdmlfmjaa

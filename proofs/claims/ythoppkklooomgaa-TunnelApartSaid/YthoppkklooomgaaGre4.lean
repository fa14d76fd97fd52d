/- gre: Decap, Accept, few, shown. -/
import Derived.Test.YthoppkklooomgaaGre3
import Derived.Deep.RegionWith
import Derived.Test.YthoppkklooomgaaSh11
namespace Go.Proofs.Ythoppkklooomgaa
open Go.RowKit
set_option linter.unusedVariables false
theorem wrap_nil' (s : ByteArray) (w : World) : Calls Try.prog 23 #[.string s, .nilIface] w fun e w' => e = .returned .nilIface ∧ w' = w := (wrap_nil s w).mono fun _ _ h => ⟨h.1, h.2.symm⟩

theorem Err.wrapped {w : World} {v : Value} {ls : List ByteArray} {n : Int} (h : Err w v ls n) (s : ByteArray) {k : Nat} (hk : k = w.heap.size) :
    Err (w.alloc (.cells #[.string s, v] 109)).drew (.iface 107 (.pointer (some ⟨k, 0, none⟩))) (s :: ls) n := by
  subst hk
  exact .wrap (((Fr.refl No _).drew).heap (heap_alloc_new w _) (fun h => h)) (h.no (((Fr.refl No w).alloc _).drew))

set_option maxRecDepth 100000 in
theorem gDecap_any {w : World} {ao : Option Addr} {n cap : Nat} {bs : List UInt8} (hb : Bs w ao n cap bs) (hn : n ≤ 20000) : Calls Try.prog 45 #[.slice ao n cap] w (GOut w (gDec bs) [greS]) := by
  have HB := Lib.hid hb
  clear hb
  go_enter Try.func45, Try.ntmps45
  go_wp2_with fail
  have X0 := Lib.hid (heap_alloc_new w (.cells #[.bool false, .bool false, .int .u32 0, .bool false, .int .u32 0] 113))
  have F0 := Lib.hid ((Fr.refl No w).alloc (.cells #[.bool false, .bool false, .int .u32 0, .bool false, .int .u32 0] 113))
  have hs0 : (w.alloc (.cells #[.bool false, .bool false, .int .u32 0, .bool false, .int .u32 0] 113)).heap.size = w.heap.size + 1 := by simp
  generalize hw0 : w.alloc (.cells #[.bool false, .bool false, .int .u32 0, .bool false, .int .u32 0] 113) = w0 at *
  clear hw0
  refine (gdecap_any (HB.out.no F0.out) hn).mono ?_
  cases hg : gDec bs with
  | ok s k key q seq fs =>
    rintro e w1 ⟨g, cap1, rfl, o1, f1, hg1⟩
    have X1 := Lib.hid (f1.heap X0.out (fun h => h))
    have F1 := Lib.hid (F0.out.then_no f1)
    have O1 := Lib.hid o1
    have hl1 := lt_of_heap X1.out
    clear X0 F0 o1 f1 HB
    have HG := Lib.hid hg
    clear hg
    go_wp2_with fail
    have fa := (Fr.refl No w1).alloc (.cells #[.bool s, .bool k, .int .u32 key, .bool q, .int .u32 seq] 113)
    have X2 := Lib.hid (fa.heap X1.out (fun h => h))
    have H2 := Lib.hid (heap_alloc_new w1 (.cells #[.bool s, .bool k, .int .u32 key, .bool q, .int .u32 seq] 113))
    have F2 := Lib.hid (F1.out.then_no fa)
    have O2 := Lib.hid (O1.out.no fa)
    obtain ⟨hb8, hB8⟩ : ∃ b, b = w1.heap.size := ⟨_, rfl⟩
    rw [← hB8] at H2 hl1 ⊢
    generalize w1.alloc (.cells #[.bool s, .bool k, .int .u32 key, .bool q, .int .u32 seq] 113) = w2 at *
    clear hB8 fa X1 F1 O1
    obtain ⟨d0, d1, d2, d3, d4⟩ := cells5 H2.out
    obtain ⟨c0, c1, c2, c3, c4⟩ := cells5 X2.out
    obtain ⟨z0, z1, z2, z3, z4⟩ := free5 X2.out
    have hx2 := lt_of_heap X2.out
    have hh2 := lt_of_heap H2.out
    go_region_with (go_at_call 23; refine (wrap_nil _ _).mono ?_; rintro e w3 ⟨rfl, rfl⟩)
    all_goals (go_wp2_with fail)
    all_goals refine bodyPost_ret (v := .tuple #[.agg #[.bool s, .bool k, .int .u32 key, .bool q, .int .u32 seq], .slice (some ⟨g, 0, none⟩) fs.length cap1, .nilIface]) (by simp [results, Try.results45, go_sem, c0, c1, c2, c3, c4]) rfl ?_
    all_goals rw [HG.out]
    all_goals refine ⟨g, cap1, rfl, ?_, (F2.out.set5 (.inr (Nat.le_refl _)) _ _ _ _ _).drew, by omega⟩
    all_goals exact (O2.out.fr ((Fr.refl (Is w.heap.size) w2).set5 (.inl rfl) _ _ _ _ _) (by rintro a' ha' (hi : a'.block = w.heap.size); cases ha'; simp at hi; omega)).no ((Fr.refl No _).drew)
  | no inner code =>
    rintro e w1 ⟨v, rfl, he, f1⟩
    have X1 := Lib.hid (f1.heap X0.out (fun h => h))
    have F1 := Lib.hid (F0.out.then_no f1)
    have HE := Lib.hid he
    have hl1 := lt_of_heap X1.out
    clear X0 F0 he f1 HB
    have HG := Lib.hid hg
    clear hg
    simp only [zeroH]
    go_wp2_with fail
    have fa := (Fr.refl No w1).alloc (.cells #[.bool false, .bool false, .int .u32 0, .bool false, .int .u32 0] 113)
    have X2 := Lib.hid (fa.heap X1.out (fun h => h))
    have H2 := Lib.hid (heap_alloc_new w1 (.cells #[.bool false, .bool false, .int .u32 0, .bool false, .int .u32 0] 113))
    have F2 := Lib.hid (F1.out.then_no fa)
    have HE2 := Lib.hid (HE.out.no fa)
    obtain ⟨hb8, hB8⟩ : ∃ b, b = w1.heap.size := ⟨_, rfl⟩
    rw [← hB8] at H2 hl1 ⊢
    generalize w1.alloc (.cells #[.bool false, .bool false, .int .u32 0, .bool false, .int .u32 0] 113) = w2 at *
    clear hB8 fa X1 F1 HE
    obtain ⟨d0, d1, d2, d3, d4⟩ := cells5 H2.out
    obtain ⟨c0, c1, c2, c3, c4⟩ := cells5 X2.out
    obtain ⟨z0, z1, z2, z3, z4⟩ := free5 X2.out
    have hx2 := lt_of_heap X2.out
    have hh2 := lt_of_heap H2.out
    obtain ⟨t, x, rfl⟩ := HE2.out.held
    go_region_with (go_at_call 23; refine (wrap_some _ _ _ _).mono ?_; rintro e w3 ⟨rfl, rfl⟩)
    all_goals (go_wp2_with fail)
    all_goals refine bodyPost_ret (v := .tuple #[zeroH, .slice none 0 0, .iface 107 (.pointer (some ⟨w2.heap.size, 0, none⟩))]) (by simp [results, Try.results45, go_sem, c0, c1, c2, c3, c4, hx2, zeroH]) rfl ?_
    all_goals rw [HG.out]
    all_goals refine ⟨_, rfl, ?_, ((F2.out.set5 (.inr (Nat.le_refl _)) _ _ _ _ _).alloc _).drew⟩
    all_goals exact (HE2.out.set5 X2.out (by decide) _ _ _ _ _).wrapped greS (by simp)

end Go.Proofs.Ythoppkklooomgaa
/- bridge: FromTunnel. -/
import Derived.Test.YticebdoiahadoaaBg10
namespace Go.Proofs.Yticebdoiahadoaa
open Go.RowKit
set_option linter.unusedVariables false
set_option linter.unusedSimpArgs false

set_option maxRecDepth 100000 in
set_option maxHeartbeats 4000000 in
theorem bgFromTunnel_any {w : World} {room life : Int} {B : BrM} {X : AB} (h : BrAt w room life B X) {i t : Int} (ht : okI t) {ao : Option Addr} {n cap : Nat} {bs : List UInt8} (hb : Bs w ao n cap bs) {now : Int} (hn0 : 0 ≤ now) (hn1 : now < 18446744073709551616) {r : AOut × Int × AB} (hr : aFromTunnel room life X i t bs now = r) :
    Calls Try.prog 31 #[.pointer (some ⟨B.bb, 0, none⟩), .int .i64 i, .int .i64 t, .slice ao n cap, .int .u64 now] w (GoesP w B room life r) := by
  have H := Lib.hid h
  have HP := Lib.hid ht
  have f0 := (Fr.refl No w).alloc (.cells #[.slice none 0 0, .slice none 0 0, .bool false] 34)
  have hz0 := heap_alloc_new w (.cells #[.slice none 0 0, .slice none 0 0, .bool false] 34)
  by_cases hi : okSeg i
  · by_cases hm : t ∈ (X.at i).qs
    · obtain ⟨r1, hr1⟩ : ∃ r1, aFrame room life (X.at i) ⟨true, t⟩ bs now = r1 := ⟨_, rfl⟩
      have hx : r = (r1.1, r1.2.1, X.put i ⟨r1.2.2, (X.at i).ps, (X.at i).qs⟩) := by rw [← hr]; unfold aFromTunnel; rw [if_neg (by rintro (h | h); exact h hi; exact h hm)]; simp only [hr1]
      have HX := Lib.hid hx
      have HR1 := Lib.hid hr1
      have HI := Lib.hid hi
      have HLT := Lib.hid (fun k (hk : B.all k) => h.lt hk)
      have H0 := Lib.hid (h.no f0)
      have HB0 := Lib.hid (hb.no f0)
      have HM := Lib.hid (decide_eq_true hm)
      have HS := Lib.hid (bgSegment0_in (h.no f0) hi)
      clear hr h hb hx hr1 hi hm
      generalize hbb : B.bb = bb at HS ⊢
      clear hbb
      go_enter Try.func31, Try.ntmps31
      go_wp2_with fail
      obtain ⟨wz, hwz⟩ : ∃ wz, w.alloc (.cells #[.slice none 0 0, .slice none 0 0, .bool false] 34) = wz := ⟨_, rfl⟩
      have HWZ := Lib.hid hwz
      simp only [hwz] at hz0 H0 HB0 HS ⊢
      clear hwz f0
      have RZ := Lib.hid hz0
      have S0 := Lib.hid (H0.out.seg i HI.out)
      have CA := Lib.hid (bgFrame_any (H0.out.seg i HI.out) (H0.out.good.pl HI.out) (H0.out.good.ql i HI.out) ⟨true, t⟩ (show -9223372036854775808 ≤ t ∧ t ≤ 9223372036854775807 from HP.out) HB0.out hn0 hn1 HR1.out)
      clear hz0
      refine HS.out.mono ?_
      rintro e w1 ⟨rfl, rfl⟩
      obtain ⟨k0, k1, k2⟩ := S0.out.cells
      generalize hsb : (B.at i).sb = sb at k0 k1 k2 ⊢
      have HSB := Lib.hid hsb
      clear hsb HS
      go_wp2_with fail
      refine (containsI_any S0.out.q.sl t HM.out).mono ?_
      rintro e w1 ⟨rfl, rfl⟩
      go_wp2_with fail
      rw [← HSB.out]
      refine CA.out.mono ?_
      rintro e w1 hfp
      obtain ⟨B', po, pc, qo, qc, rfl, c1, c2, g1, g2, b1, t1, f1⟩ := H0.out.framed HI.out hfp
      obtain ⟨⟨rps, rqs, rfl2⟩, rc, rA⟩ := r1
      have R1 := Lib.hid (f1.heap RZ.out (fun hk => by have := HLT.out _ hk; omega))
      have G1 := Lib.hid (show GoesP wz B room life ((⟨rps, rqs, rfl2⟩ : AOut), rc, X.put i ⟨rA, (X.at i).ps, (X.at i).qs⟩) (.returned (.tuple #[.agg #[.slice po rps.length pc, .slice qo rqs.length qc, .bool rfl2], .int .i64 rc])) w1 from ⟨B', po, pc, qo, qc, rfl, c1, c2, g1, g2, b1, t1, f1⟩)
      simp only
      obtain ⟨s0, s1, s2⟩ := cells3 R1.out
      obtain ⟨z0, z1, z2⟩ := free3 R1.out
      clear hfp c1 c2 g1 g2 b1 t1 f1
      go_wp2_with fail
      have hz := set3 R1.out (.slice po rps.length pc) (.slice qo rqs.length qc) (.bool rfl2)
      have f3 := frIs3 w1 w.heap.size (.slice po rps.length pc) (.slice qo rqs.length qc) (.bool rfl2)
      clear s0 s1 s2 z0 z1 z2
      generalize World.setCell _ _ _ = wq at hz f3 ⊢
      obtain ⟨s0, s1, s2⟩ := cells3 hz
      refine bodyPost_ret (v := .tuple #[.agg #[.slice po rps.length pc, .slice qo rqs.length qc, .bool rfl2], .int .i64 rc]) (by simp [results, Try.results31, go_sem, s0, s1, s2]) rfl ?_
      rw [HX.out]
      have G2 := G1.out
      rw [← HWZ.out] at G2
      exact GoesP.boxed HLT.out G2 f3
    · have hx : r = (noOut, 6, X) := by rw [← hr]; unfold aFromTunnel; rw [if_pos (.inr hm)]
      subst hx
      have H0 := Lib.hid (h.no f0)
      have HI := Lib.hid hi
      have HM := Lib.hid (decide_eq_false hm)
      have HS := Lib.hid (bgSegment0_in (h.no f0) hi)
      have F0 := Lib.hid f0
      clear hr h hb hi hm
      generalize hbb : B.bb = bb at HS ⊢
      clear hbb
      go_enter Try.func31, Try.ntmps31
      go_wp2_with fail
      obtain ⟨wz, hwz⟩ : ∃ wz, w.alloc (.cells #[.slice none 0 0, .slice none 0 0, .bool false] 34) = wz := ⟨_, rfl⟩
      simp only [hwz] at hz0 H0 HS F0 ⊢
      clear hwz f0
      have S0 := Lib.hid (H0.out.seg i HI.out)
      refine HS.out.mono ?_
      rintro e w1 ⟨rfl, rfl⟩
      obtain ⟨k0, k1, k2⟩ := S0.out.cells
      generalize (B.at i).sb = sb at k0 k1 k2 ⊢
      clear HS
      have RZ := Lib.hid hz0
      obtain ⟨s0, s1, s2⟩ := cells3 hz0
      obtain ⟨z0, z1, z2⟩ := free3 hz0
      clear hz0
      go_wp2_with fail
      refine (containsI_any S0.out.q.sl t HM.out).mono ?_
      rintro e w1 ⟨rfl, rfl⟩
      go_wp2_with fail
      have hz := set3 RZ.out (.slice none 0 0) (.slice none 0 0) (.bool false)
      have f3 := fr3 F0.out (b := w.heap.size) (Nat.le_refl _) (.slice none 0 0) (.slice none 0 0) (.bool false)
      clear s0 s1 s2 z0 z1 z2
      generalize World.setCell _ _ _ = wq at hz f3 ⊢
      obtain ⟨s0, s1, s2⟩ := cells3 hz
      refine bodyPost_ret (v := .tuple #[.agg #[.slice none 0 0, .slice none 0 0, .bool false], .int .i64 6]) (by simp [results, Try.results31, go_sem, s0, s1, s2]) rfl ?_
      exact H.out.goesNone f3 6
  · have hx : r = (noOut, 6, X) := by rw [← hr]; unfold aFromTunnel; rw [if_pos (.inl hi)]
    subst hx
    have F0 := Lib.hid f0
    have HS := Lib.hid (fun W => bgSegment0_out (w := W) (bb := B.bb) hi)
    clear hr h hb hi
    generalize hbb : B.bb = bb at HS ⊢
    clear hbb
    go_enter Try.func31, Try.ntmps31
    go_wp2_with fail
    refine (HS.out _).mono ?_
    rintro e w1 ⟨rfl, rfl⟩
    clear hz0 f0
    go_wp2_with fail
    have hz := heap_alloc_new w (.cells #[.slice none 0 0, .slice none 0 0, .bool false] 34)
    have hf := (Fr.refl No w).alloc (.cells #[.slice none 0 0, .slice none 0 0, .bool false] 34)
    clear F0
    generalize World.alloc _ _ = wz at hz hf ⊢
    obtain ⟨s0, s1, s2⟩ := cells3 hz
    refine bodyPost_ret (v := .tuple #[.agg #[.slice none 0 0, .slice none 0 0, .bool false], .int .i64 6]) (by simp [results, Try.results31, go_sem, s0, s1, s2]) rfl ?_
    exact H.out.goesNone hf 6
end Go.Proofs.Yticebdoiahadoaa

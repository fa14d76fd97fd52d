/- bridge: FromPort, FromTunnel. bridge: FromTunnel. bridge: New. -/
import Derived.Test.YticebdoiahadoaaDoorBg9
namespace Go.Proofs.YticebdoiahadoaaDoor
open Go.RowKit
set_option linter.unusedVariables false
set_option linter.unusedSimpArgs false
/-- What a frame leaves of the bridge. -/
def GoesP (w : World) (B : BrM) (room life : Int) (r : AOut × Int × AB) (e : Ending) (w' : World) : Prop :=
  ∃ B' po pc qo qc, e = .returned (.tuple #[.agg #[.slice po r.1.ps.length pc, .slice qo r.1.qs.length qc, .bool r.1.fl], .int .i64 r.2.1]) ∧ OI w' po r.1.ps.length pc r.1.ps ∧ OI w' qo r.1.qs.length qc r.1.qs ∧
    (∀ a, po = some a → w.heap.size ≤ a.block ∧ ¬ BrM.all B' a.block) ∧ (∀ a, qo = some a → w.heap.size ≤ a.block ∧ ¬ BrM.all B' a.block) ∧ BrAt w' room life B' r.2.2 ∧ BrM.sub w B B' ∧ Fr B.all w w'

theorem BrAt.framed {w w1 : World} {room life : Int} {B : BrM} {X : AB} (h : BrAt w room life B X) {n : Int} (hn : okSeg n) {r1 : AOut × Int × AL} {e : Ending} (hf : FrameP w (B.at n) room life r1 e w1) :
    GoesP w B room life (r1.1, r1.2.1, X.put n ⟨r1.2.2, (X.at n).ps, (X.at n).qs⟩) e w1 := by
  obtain ⟨po, pc, qo, qc, L', he, hp, hq, gp, gq, fd, ab, nb, fr⟩ := hf
  have hs := (h.seg n hn).turn fd ab fr
  generalize hm' : (⟨(B.at n).sb, (B.at n).tb, (B.at n).mb, L', (B.at n).po, (B.at n).pn, (B.at n).pc, (B.at n).qo, (B.at n).qn, (B.at n).qc⟩ : SgM) = m' at hs
  have hall : ∀ k, m'.all k → (B.at n).all k ∨ w.heap.size ≤ k := by
    subst hm'
    rintro k (h1 | h1 | h1 | ⟨p, hp, h1⟩ | h1 | h1)
    · exact .inl (.inl h1)
    · exact .inl (.inr (.inl h1))
    · exact .inl (.inr (.inr (.inl h1)))
    · rcases nb p hp with ⟨q, hq, h2⟩ | h2
      · exact .inl (.inr (.inr (.inr (.inl ⟨q, hq, by rw [h1, h2]⟩))))
      · exact .inr (by rw [h1]; exact h2)
    · exact .inl (.inr (.inr (.inr (.inr (.inl h1)))))
    · exact .inl (.inr (.inr (.inr (.inr (.inr h1)))))
  have hfr : Fr (fun k => (B.at n).all k ∨ k = B.nb) w w1 := fr.mono (fun k _ hk => .inl (fs_all hk))
  have hm : Mp okI evI evI w1 B.nb X.bd := h.mp.fr fr (by
    rintro (e | ⟨p, hp, e⟩)
    · exact h.nbd n hn e.symm
    · obtain ⟨es, c, hm, -⟩ := h.mp.ex
      have := (h.seg n hn).fd.ent p hp
      unfold EnAt at this
      rw [← e, hm] at this; cases this)
  have hst := h.step hn hfr (fun k _ hk => hk) hs (by subst hm'; rfl) (by subst hm'; rfl) hall hm (h.good.base hn r1.2.2)
  have hsub := BrM.sub_set h.mlen hn (m := m') (by subst hm'; rfl) (by subst hm'; rfl) hall
  have hnot : ∀ {ao : Option Addr} {k c : Nat} {zs : List Int}, OI w1 ao k c zs → (∀ a, ao = some a → w.heap.size ≤ a.block) → ∀ a, ao = some a → w.heap.size ≤ a.block ∧ ¬ BrM.all (B.set n m') a.block := by
    intro ao k c zs ho hg a ha
    have hge := hg a ha
    refine ⟨hge, ?_⟩
    obtain ⟨-, cur, g2, -⟩ := ho.2.row a ha
    rintro (h1 | h1 | ⟨j, hj, h1⟩)
    · have : B.bb < w.heap.size := lt_of_heap h.box
      have h2 : a.block = B.bb := h1
      omega
    · have : B.nb < w.heap.size := h.mp.lt
      have h2 : a.block = B.nb := h1
      omega
    · rw [BrM.at_set h.mlen hn hj] at h1
      split at h1
      · rcases hall _ h1 with h2 | h2
        · have := (h.seg n hn).lt h2; omega
        · subst hm'
          rcases h1 with h1 | h1 | h1 | ⟨p, hp, h1⟩ | h1 | h1
          · have := (h.seg n hn).lt (k := a.block) (.inl h1); omega
          · have := (h.seg n hn).lt (k := a.block) (.inr (.inl h1)); omega
          · have := (h.seg n hn).lt (k := a.block) (.inr (.inr (.inl h1))); omega
          · have h3 := fd.ent p hp
            unfold EnAt at h3
            rw [← h1, g2] at h3; simp at h3
          · have := (h.seg n hn).lt (k := a.block) (.inr (.inr (.inr (.inr (.inl h1))))); omega
          · have := (h.seg n hn).lt (k := a.block) (.inr (.inr (.inr (.inr (.inr h1))))); omega
      · have := (h.seg j hj).lt h1; omega
  exact ⟨B.set n m', po, pc, qo, qc, he, hp, hq, hnot hp gp, hnot hq gq, hst, hsub, hfr.mono (fun k _ hk => by
    rcases hk with hk | hk
    · exact .inr (.inr ⟨n, hn, hk⟩)
    · exact .inr (.inl hk))⟩
/-- Nothing goes. -/
theorem BrAt.goesNone {w w' : World} {room life : Int} {B : BrM} {X : AB} (h : BrAt w room life B X) (hf : Fr No w w') (c : Int) : GoesP w B room life (noOut, c, X) (.returned (.tuple #[.agg #[.slice none 0 0, .slice none 0 0, .bool false], .int .i64 c])) w' :=
  ⟨B, none, 0, none, 0, rfl, OI.nil _, OI.nil _, (fun a h => by cases h), (fun a h => by cases h), h.no hf, BrM.sub_refl _ _, hf.of_no⟩
/-- From a world with one more block, which is written behind it. -/
theorem GoesP.boxed {w w1 w2 : World} {room life : Int} {B : BrM} {r : AOut × Int × AB} {e : Ending} {o : Obj} (hlt : ∀ k, B.all k → k < w.heap.size) (h : GoesP (w.alloc o) B room life r e w1) (hf : Fr (Is w.heap.size) w1 w2) : GoesP w B room life r e w2 := by
  obtain ⟨B', po, pc, qo, qc, he, hp, hq, gp, gq, hb, hsub, fr⟩ := h
  simp only [World.size_alloc] at gp gq
  have hsz : (w.alloc o).heap.size = w.heap.size + 1 := by simp
  refine ⟨B', po, pc, qo, qc, he, hp.fr hf (fun a ha e => ?_), hq.fr hf (fun a ha e => ?_), (fun a ha => ⟨by have := (gp a ha).1; omega, (gp a ha).2⟩), (fun a ha => ⟨by have := (gq a ha).1; omega, (gq a ha).2⟩), hb.fr hf (fun k hk e => ?_), ⟨hsub.bb, hsub.nb, hsub.sb, hsub.tb, fun k hk => (hsub.all k hk).imp id (fun h => by omega)⟩, ?_⟩
  · have := (gp a ha).1; simp only [Is] at e; omega
  · have := (gq a ha).1; simp only [Is] at e; omega
  · simp only [Is] at e
    rcases hsub.all k hk with h1 | h1
    · have := hlt k h1; omega
    · omega
  · have f0 : Fr B.all w w1 := ((Fr.refl B.all w).alloc o).trans fr
    exact f0.then hf (fun i hi e => by simp only [Is] at e; omega)

set_option maxRecDepth 100000 in
set_option maxHeartbeats 4000000 in
theorem bgFromPort_any {w : World} {room life : Int} {B : BrM} {X : AB} (h : BrAt w room life B X) {p : Int} (hp : okI p) {ao : Option Addr} {n cap : Nat} {bs : List UInt8} (hb : Bs w ao n cap bs) {now : Int} (hn0 : 0 ≤ now) (hn1 : now < 18446744073709551616) {r : AOut × Int × AB} (hr : aFromPort room life X p bs now = r) :
    Calls Tryd.prog 11 #[.pointer (some ⟨B.bb, 0, none⟩), .int .i64 p, .slice ao n cap, .int .u64 now] w (GoesP w B room life r) := by
  have H := Lib.hid h
  have k8 := h.mcell
  have lk := h.look hp (w.alloc (.cells #[.slice none 0 0, .slice none 0 0, .bool false] 37)) (Below.heap_alloc w _ _ h.mp.lt)
  have HP := Lib.hid hp
  have HB := Lib.hid hb
  cases hg : mget X.bd p with
  | none =>
    have hx : r = (noOut, 6, X) := by rw [← hr]; unfold aFromPort; rw [hg]
    subst hx
    rw [hg] at lk
    simp only [Option.getD_none, Option.isSome_none] at lk
    have ltb : B.bb < w.heap.size := lt_of_heap h.box
    clear hr h hb hg
    generalize hbb : B.bb = bb at k8 ltb ⊢
    generalize hnb : B.nb = nb at k8 lk
    clear hbb hnb
    go_enter Tryd.func11, Tryd.ntmps11
    go_wp2_with fail
    have hz := heap_alloc_new w (.cells #[.slice none 0 0, .slice none 0 0, .bool false] 37)
    have hf := (Fr.refl No w).alloc (.cells #[.slice none 0 0, .slice none 0 0, .bool false] 37)
    generalize World.alloc _ _ = wz at hz hf ⊢
    obtain ⟨s0, s1, s2⟩ := cells3 hz
    refine bodyPost_ret (v := .tuple #[.agg #[.slice none 0 0, .slice none 0 0, .bool false], .int .i64 6]) (by simp [results, Tryd.results11, go_sem, s0, s1, s2]) rfl ?_
    exact H.out.goesNone hf 6
  | some i =>
    have hi : okSeg i := (h.good.bk p i hg).2
    obtain ⟨r1, hr1⟩ : ∃ r1, aFrame room life (X.at i) ⟨false, p⟩ bs now = r1 := ⟨_, rfl⟩
    have hx : r = (r1.1, r1.2.1, X.put i ⟨r1.2.2, (X.at i).ps, (X.at i).qs⟩) := by rw [← hr]; unfold aFromPort; rw [hg]; simp only [hr1]
    have HX := Lib.hid hx
    have HR1 := Lib.hid hr1
    have HI := Lib.hid hi
    rw [hg] at lk
    simp only [Option.getD_some, Option.isSome_some] at lk
    have ltb : B.bb < w.heap.size := lt_of_heap h.box
    have HLT := Lib.hid (fun k (hk : B.all k) => h.lt hk)
    have f0 := (Fr.refl No w).alloc (.cells #[.slice none 0 0, .slice none 0 0, .bool false] 37)
    have hc := f0.cell (h.cell hi) (fun h => h)
    have k8 := f0.cell k8 (fun h => h)
    have hz := heap_alloc_new w (.cells #[.slice none 0 0, .slice none 0 0, .bool false] 37)
    have H0 := Lib.hid (h.no f0)
    have HB0 := Lib.hid (hb.no f0)
    have n0 : ¬ i < 0 := by obtain ⟨a, b⟩ := hi; omega
    have n1 : i < 8 := hi.2
    have n2 : 0 ≤ i := hi.1
    clear hr h hb hg hx hr1 hi
    generalize hbb : B.bb = bb at k8 hc ltb ⊢
    generalize hnb : B.nb = nb at k8 lk
    clear hbb hnb
    go_enter Tryd.func11, Tryd.ntmps11
    go_upto_region 4 with fail
    obtain ⟨wz, hwz⟩ : ∃ wz, w.alloc (.cells #[.slice none 0 0, .slice none 0 0, .bool false] 37) = wz := ⟨_, rfl⟩
    have HWZ := Lib.hid hwz
    simp only [hwz] at hz H0 HB0 hc k8 ⊢
    clear lk hwz
    have RZ := Lib.hid hz
    have SB := Lib.hid (H0.out.seg i HI.out)
    have CA := Lib.hid (bgFrame_any (H0.out.seg i HI.out) (H0.out.good.pl HI.out) (H0.out.good.ql i HI.out) ⟨false, p⟩ (show -9223372036854775808 ≤ p ∧ p ≤ 9223372036854775807 from HP.out) HB0.out hn0 hn1 HR1.out)
    generalize hsb : (B.at i).sb = sb at hc
    have HSB := Lib.hid hsb
    clear hsb
    clear hz
    go_wp2_with fail
    rw [← HSB.out]
    refine CA.out.mono ?_
    rintro e w1 hfp
    obtain ⟨B', po, pc, qo, qc, rfl, c1, c2, g1, g2, b1, t1, f1⟩ := H0.out.framed HI.out hfp
    obtain ⟨⟨rps, rqs, rfl2⟩, rc, rA⟩ := r1
    have R1 := Lib.hid (f1.heap RZ.out (fun hk => by have := HLT.out _ hk; omega))
    have G1 := Lib.hid (show GoesP wz B room life ((⟨rps, rqs, rfl2⟩ : AOut), rc, X.put i ⟨rA, (X.at i).ps, (X.at i).qs⟩) (.returned (.tuple #[.agg #[.slice po rps.length pc, .slice qo rqs.length qc, .bool rfl2], .int .i64 rc])) w1 from ⟨B', po, pc, qo, qc, rfl, c1, c2, g1, g2, b1, t1, f1⟩)
    simp only
    obtain ⟨s0, s1, s2⟩ := cells3 R1.out
    obtain ⟨z0, z1, z2⟩ := free3 R1.out
    clear hfp c1 c2 g1 g2 b1 t1 f1
    go_wp2_with fail
    have hz := set3 R1.out (.slice po rps.length pc) (.slice qo rqs.length qc) (.bool rfl2)
    have f3 := frIs3 w1 w.heap.size (.slice po rps.length pc) (.slice qo rqs.length qc) (.bool rfl2)
    clear s0 s1 s2 z0 z1 z2
    generalize World.setCell _ _ _ = wq at hz f3 ⊢
    obtain ⟨s0, s1, s2⟩ := cells3 hz
    refine bodyPost_ret (v := .tuple #[.agg #[.slice po rps.length pc, .slice qo rqs.length qc, .bool rfl2], .int .i64 rc]) (by simp [results, Tryd.results11, go_sem, s0, s1, s2]) rfl ?_
    rw [HX.out]
    have G2 := G1.out
    rw [← HWZ.out] at G2
    exact GoesP.boxed HLT.out G2 f3
end Go.Proofs.YticebdoiahadoaaDoor
namespace Go.Proofs.YticebdoiahadoaaDoor
open Go.RowKit
set_option linter.unusedVariables false
set_option linter.unusedSimpArgs false
set_option maxRecDepth 100000 in
set_option maxHeartbeats 4000000 in
theorem bgFromTunnel_any {w : World} {room life : Int} {B : BrM} {X : AB} (h : BrAt w room life B X) {i t : Int} (ht : okI t) {ao : Option Addr} {n cap : Nat} {bs : List UInt8} (hb : Bs w ao n cap bs) {now : Int} (hn0 : 0 ≤ now) (hn1 : now < 18446744073709551616) {r : AOut × Int × AB} (hr : aFromTunnel room life X i t bs now = r) :
    Calls Tryd.prog 9 #[.pointer (some ⟨B.bb, 0, none⟩), .int .i64 i, .int .i64 t, .slice ao n cap, .int .u64 now] w (GoesP w B room life r) := by
  have H := Lib.hid h
  have HP := Lib.hid ht
  have f0 := (Fr.refl No w).alloc (.cells #[.slice none 0 0, .slice none 0 0, .bool false] 37)
  have hz0 := heap_alloc_new w (.cells #[.slice none 0 0, .slice none 0 0, .bool false] 37)
  by_cases hi : okSeg i
  · by_cases hm : t ∈ (X.at i).qs
    · obtain ⟨r1, hr1⟩ : ∃ r1, aFrame room life (X.at i) ⟨true, t⟩ bs now = r1 := ⟨_, rfl⟩
      have hx : r = (r1.1, r1.2.1, X.put i ⟨r1.2.2, (X.at i).ps, (X.at i).qs⟩) := by rw [← hr]; unfold aFromTunnel; rw [if_neg (by rintro (h | h); exact h hi; exact h hm)]; simp only [hr1]
      have HX := Lib.hid hx
      have HR1 := Lib.hid hr1
      have HI := Lib.hid hi
      have HLT := Lib.hid (fun k (hk : B.all k) => h.lt hk)
      have H0 := Lib.hid (h.no f0)
      have HB0 := Lib.hid (hb.no f0)
      have HM := Lib.hid (decide_eq_true hm)
      have HS := Lib.hid (bgSegment0_in (h.no f0) hi)
      clear hr h hb hx hr1 hi hm
      generalize hbb : B.bb = bb at HS ⊢
      clear hbb
      go_enter Tryd.func9, Tryd.ntmps9
      go_wp2_with fail
      obtain ⟨wz, hwz⟩ : ∃ wz, w.alloc (.cells #[.slice none 0 0, .slice none 0 0, .bool false] 37) = wz := ⟨_, rfl⟩
      have HWZ := Lib.hid hwz
      simp only [hwz] at hz0 H0 HB0 HS ⊢
      clear hwz f0
      have RZ := Lib.hid hz0
      have S0 := Lib.hid (H0.out.seg i HI.out)
      have CA := Lib.hid (bgFrame_any (H0.out.seg i HI.out) (H0.out.good.pl HI.out) (H0.out.good.ql i HI.out) ⟨true, t⟩ (show -9223372036854775808 ≤ t ∧ t ≤ 9223372036854775807 from HP.out) HB0.out hn0 hn1 HR1.out)
      clear hz0
      refine HS.out.mono ?_
      rintro e w1 ⟨rfl, rfl⟩
      obtain ⟨k0, k1, k2⟩ := S0.out.cells
      generalize hsb : (B.at i).sb = sb at k0 k1 k2 ⊢
      have HSB := Lib.hid hsb
      clear hsb HS
      go_wp2_with fail
      refine (containsI_any S0.out.q.sl t HM.out).mono ?_
      rintro e w1 ⟨rfl, rfl⟩
      go_wp2_with fail
      rw [← HSB.out]
      refine CA.out.mono ?_
      rintro e w1 hfp
      obtain ⟨B', po, pc, qo, qc, rfl, c1, c2, g1, g2, b1, t1, f1⟩ := H0.out.framed HI.out hfp
      obtain ⟨⟨rps, rqs, rfl2⟩, rc, rA⟩ := r1
      have R1 := Lib.hid (f1.heap RZ.out (fun hk => by have := HLT.out _ hk; omega))
      have G1 := Lib.hid (show GoesP wz B room life ((⟨rps, rqs, rfl2⟩ : AOut), rc, X.put i ⟨rA, (X.at i).ps, (X.at i).qs⟩) (.returned (.tuple #[.agg #[.slice po rps.length pc, .slice qo rqs.length qc, .bool rfl2], .int .i64 rc])) w1 from ⟨B', po, pc, qo, qc, rfl, c1, c2, g1, g2, b1, t1, f1⟩)
      simp only
      obtain ⟨s0, s1, s2⟩ := cells3 R1.out
      obtain ⟨z0, z1, z2⟩ := free3 R1.out
      clear hfp c1 c2 g1 g2 b1 t1 f1
      go_wp2_with fail
      have hz := set3 R1.out (.slice po rps.length pc) (.slice qo rqs.length qc) (.bool rfl2)
      have f3 := frIs3 w1 w.heap.size (.slice po rps.length pc) (.slice qo rqs.length qc) (.bool rfl2)
      clear s0 s1 s2 z0 z1 z2
      generalize World.setCell _ _ _ = wq at hz f3 ⊢
      obtain ⟨s0, s1, s2⟩ := cells3 hz
      refine bodyPost_ret (v := .tuple #[.agg #[.slice po rps.length pc, .slice qo rqs.length qc, .bool rfl2], .int .i64 rc]) (by simp [results, Tryd.results9, go_sem, s0, s1, s2]) rfl ?_
      rw [HX.out]
      have G2 := G1.out
      rw [← HWZ.out] at G2
      exact GoesP.boxed HLT.out G2 f3
    · have hx : r = (noOut, 6, X) := by rw [← hr]; unfold aFromTunnel; rw [if_pos (.inr hm)]
      subst hx
      have H0 := Lib.hid (h.no f0)
      have HI := Lib.hid hi
      have HM := Lib.hid (decide_eq_false hm)
      have HS := Lib.hid (bgSegment0_in (h.no f0) hi)
      have F0 := Lib.hid f0
      clear hr h hb hi hm
      generalize hbb : B.bb = bb at HS ⊢
      clear hbb
      go_enter Tryd.func9, Tryd.ntmps9
      go_wp2_with fail
      obtain ⟨wz, hwz⟩ : ∃ wz, w.alloc (.cells #[.slice none 0 0, .slice none 0 0, .bool false] 37) = wz := ⟨_, rfl⟩
      simp only [hwz] at hz0 H0 HS F0 ⊢
      clear hwz f0
      have S0 := Lib.hid (H0.out.seg i HI.out)
      refine HS.out.mono ?_
      rintro e w1 ⟨rfl, rfl⟩
      obtain ⟨k0, k1, k2⟩ := S0.out.cells
      generalize (B.at i).sb = sb at k0 k1 k2 ⊢
      clear HS
      have RZ := Lib.hid hz0
      obtain ⟨s0, s1, s2⟩ := cells3 hz0
      obtain ⟨z0, z1, z2⟩ := free3 hz0
      clear hz0
      go_wp2_with fail
      refine (containsI_any S0.out.q.sl t HM.out).mono ?_
      rintro e w1 ⟨rfl, rfl⟩
      go_wp2_with fail
      have hz := set3 RZ.out (.slice none 0 0) (.slice none 0 0) (.bool false)
      have f3 := fr3 F0.out (b := w.heap.size) (Nat.le_refl _) (.slice none 0 0) (.slice none 0 0) (.bool false)
      clear s0 s1 s2 z0 z1 z2
      generalize World.setCell _ _ _ = wq at hz f3 ⊢
      obtain ⟨s0, s1, s2⟩ := cells3 hz
      refine bodyPost_ret (v := .tuple #[.agg #[.slice none 0 0, .slice none 0 0, .bool false], .int .i64 6]) (by simp [results, Tryd.results9, go_sem, s0, s1, s2]) rfl ?_
      exact H.out.goesNone f3 6
  · have hx : r = (noOut, 6, X) := by rw [← hr]; unfold aFromTunnel; rw [if_pos (.inl hi)]
    subst hx
    have F0 := Lib.hid f0
    have HS := Lib.hid (fun W => bgSegment0_out (w := W) (bb := B.bb) hi)
    clear hr h hb hi
    generalize hbb : B.bb = bb at HS ⊢
    clear hbb
    go_enter Tryd.func9, Tryd.ntmps9
    go_wp2_with fail
    refine (HS.out _).mono ?_
    rintro e w1 ⟨rfl, rfl⟩
    clear hz0 f0
    go_wp2_with fail
    have hz := heap_alloc_new w (.cells #[.slice none 0 0, .slice none 0 0, .bool false] 37)
    have hf := (Fr.refl No w).alloc (.cells #[.slice none 0 0, .slice none 0 0, .bool false] 37)
    clear F0
    generalize World.alloc _ _ = wz at hz hf ⊢
    obtain ⟨s0, s1, s2⟩ := cells3 hz
    refine bodyPost_ret (v := .tuple #[.agg #[.slice none 0 0, .slice none 0 0, .bool false], .int .i64 6]) (by simp [results, Tryd.results9, go_sem, s0, s1, s2]) rfl ?_
    exact H.out.goesNone hf 6
end Go.Proofs.YticebdoiahadoaaDoor
namespace Go.Proofs.YticebdoiahadoaaDoor
open Go.RowKit
set_option linter.unusedVariables false
set_option linter.unusedSimpArgs false
def pS (m : SgM) : Value := .pointer (some ⟨m.sb, 0, none⟩)
structure NewI (w0 wr : World) (room life : Int) (bb nb k : Nat) (ms : List SgM) : Prop where
  box : wr.heap[bb]? = some (.cells (ms.map pS ++ (List.replicate (8 - k) (Value.pointer none) ++ [Value.map (some nb)])).toArray 50 (0, 0))
  len : ms.length = k
  mp : Mp okI evI evI wr nb ([] : List (Int × Int))
  seg : ∀ m ∈ ms, SgAt wr room life m ⟨[], [], []⟩
  lo : ∀ m ∈ ms, ∀ i, m.all i → w0.heap.size ≤ i ∧ i ≠ bb ∧ i ≠ nb
  dis : ms.Pairwise (fun m m' => ∀ i, m.all i → ¬ m'.all i)
  fr : Fr No w0 wr
  b0 : w0.heap.size ≤ bb
  n0 : w0.heap.size ≤ nb
theorem NewI.ne {w0 wr : World} {room life : Int} {bb nb k : Nat} {ms : List SgM} (h : NewI w0 wr room life bb nb k ms) : nb ≠ bb := by
  intro e
  obtain ⟨es, c, hm, -⟩ := h.mp.ex
  rw [e, h.box] at hm; cases hm
theorem NewI.cell {w0 wr : World} {room life : Int} {bb nb k : Nat} {ms : List SgM} (h : NewI w0 wr room life bb nb k ms) (hk : k < 8) : wr.cell? ⟨bb, k, none⟩ = some (.pointer none) := by
  rw [cell_of_row wr _ _ _ _ _ h.box]
  simp only [List.getElem?_toArray]
  rw [List.getElem?_append_right (by rw [List.length_map, h.len]; exact Nat.le_refl _), List.length_map, h.len, Nat.sub_self, show 8 - k = (7 - k) + 1 by omega, List.replicate_succ]; rfl
theorem new_set (ms : List SgM) (k nb : Nat) (hk : k < 8) (hl : ms.length = k) (m : SgM) :
    (ms.map pS ++ (List.replicate (8 - k) (Value.pointer none) ++ [Value.map (some nb)])).toArray.setIfInBounds k (pS m) = ((ms ++ [m]).map pS ++ (List.replicate (8 - (k + 1)) (Value.pointer none) ++ [Value.map (some nb)])).toArray := by
  rw [List.setIfInBounds_toArray, List.set_append_right _ _ (by rw [List.length_map, hl]; exact Nat.le_refl _), List.length_map, hl, Nat.sub_self, show 8 - k = (8 - (k + 1)) + 1 by omega, List.replicate_succ]
  simp [pS]
theorem NewI.step {w0 wr w1 : World} {room life : Int} {bb nb k : Nat} {ms : List SgM} (h : NewI w0 wr room life bb nb k ms) (hk : k < 8) {tb mb : Nat} (hfd : Fd w1 tb mb room life []) (f1 : Fr No wr w1) (ht : wr.heap.size ≤ tb) (hm : wr.heap.size ≤ mb) :
    ∃ ms', NewI w0 ((w1.alloc (.cells #[.pointer (some ⟨tb, 0, none⟩), .slice none 0 0, .slice none 0 0] 53)).setCell ⟨bb, k, none⟩ (.pointer (some ⟨w1.heap.size, 0, none⟩))) room life bb nb (k + 1) ms' := by
  have hb1 := f1.heap h.box (fun h => h)
  have hbl : bb < wr.heap.size := lt_of_heap h.box
  have hnl : nb < wr.heap.size := h.mp.lt
  have hs0 : w0.heap.size ≤ wr.heap.size := h.fr.size
  have hs1 : wr.heap.size ≤ w1.heap.size := f1.size
  obtain ⟨m, hmd⟩ : ∃ m : SgM, (⟨w1.heap.size, tb, mb, [], none, 0, 0, none, 0, 0⟩ : SgM) = m := ⟨_, rfl⟩
  have hmall : ∀ i, m.all i → wr.heap.size ≤ i := by
    subst hmd
    rintro i (e | e | e | ⟨p, hp, e⟩ | ⟨a, ha, e⟩ | ⟨a, ha, e⟩)
    · have e : i = w1.heap.size := e
      omega
    · have e : i = tb := e
      omega
    · have e : i = mb := e
      omega
    · cases hp
    · cases ha
    · cases ha
  have hv : (Value.pointer (some ⟨w1.heap.size, 0, none⟩)) = pS m := by subst hmd; rfl
  rw [hv]
  have fal := (Fr.refl No w1).alloc (.cells #[.pointer (some ⟨tb, 0, none⟩), .slice none 0 0, .slice none 0 0] 53)
  have hnew := heap_alloc_new w1 (.cells #[.pointer (some ⟨tb, 0, none⟩), .slice none 0 0, .slice none 0 0] 53)
  generalize w1.alloc _ = w2 at fal hnew ⊢
  have hrow := set_row (fal.heap hb1 (fun h => h)) k (pS m)
  rw [new_set ms k nb hk h.len m] at hrow
  have fset : Fr (Is bb) w2 (w2.setCell ⟨bb, k, none⟩ (pS m)) := (Fr.refl (Is bb) w2).setCell (p := ⟨bb, k, none⟩) (.inl (show bb = bb from rfl)) _
  have fw : Fr No w0 (w2.setCell ⟨bb, k, none⟩ (pS m)) := ((h.fr.trans f1).trans fal).setCell (p := ⟨bb, k, none⟩) (.inr h.b0) _
  have f2 := f1.trans fal
  generalize World.setCell _ _ _ = w3 at hrow fset fw ⊢
  have nfd : Fd w3 tb mb room life [] := (hfd.no fal).fr fset (fun e => by simp only [Is] at e; omega) (fun e => by simp only [Is] at e; omega) (fun p hp => by cases hp)
  refine ⟨ms ++ [m], hrow, by simp [h.len], (h.mp.no f2).fr fset (fun e => h.ne e), ?_, ?_, ?_, fw, h.b0, h.n0⟩
  · intro m' hm'
    rcases List.mem_append.1 hm' with hm' | hm'
    · exact ((h.seg m' hm').no f2).fr fset (fun i hi e => (h.lo m' hm' i hi).2.1 e)
    · rw [List.mem_singleton] at hm'
      subst hm'; subst hmd
      exact ⟨fset.heap hnew (fun e => by simp only [Is] at e; omega), nfd, Ab.nil, OI.nil _, OI.nil _⟩
  · intro m' hm' i hi
    rcases List.mem_append.1 hm' with hm' | hm'
    · exact h.lo m' hm' i hi
    · rw [List.mem_singleton] at hm'
      subst hm'
      have := hmall i hi
      exact ⟨by omega, by omega, by omega⟩
  · rw [List.pairwise_append]
    refine ⟨h.dis, by simp, fun m' hm' m2 hm2 i hi hi2 => ?_⟩
    rw [List.mem_singleton] at hm2
    subst hm2
    have h1 := (h.seg m' hm').lt hi
    have h2 := hmall i hi2
    omega
theorem NewI.done {w0 wr : World} {room life : Int} {bb nb : Nat} {ms : List SgM} (h : NewI w0 wr room life bb nb 8 ms) : BrAt wr room life ⟨bb, nb, ms⟩ AB.new ∧ (∀ i, BrM.all ⟨bb, nb, ms⟩ i → w0.heap.size ≤ i) := by
  have hmem : ∀ n, okSeg n → (BrM.mk bb nb ms).at n ∈ ms := fun n hn => List.mem_of_getElem? (BrM.getD (B := ⟨bb, nb, ms⟩) h.len hn)
  refine ⟨⟨h.box, h.len, fun n hn => ?_, h.mp, fun n n' hn hn' hne i hi hi' => ?_, fun n hn e => ?_, Good.new⟩, ?_⟩
  · rw [new_at hn]; exact h.seg _ (hmem n hn)
  · have g1 := BrM.getD (B := ⟨bb, nb, ms⟩) h.len hn
    have g2 := BrM.getD (B := ⟨bb, nb, ms⟩) h.len hn'
    have hp := List.pairwise_iff_getElem.1 h.dis
    obtain ⟨a1, a2⟩ := List.getElem?_eq_some_iff.1 g1
    obtain ⟨c1, c2⟩ := List.getElem?_eq_some_iff.1 g2
    rw [← a2] at hi
    rw [← c2] at hi'
    obtain ⟨o1, o2⟩ := hn
    obtain ⟨o3, o4⟩ := hn'
    rcases Nat.lt_or_gt_of_ne (show n.toNat ≠ n'.toNat by omega) with hl | hl
    · exact hp _ _ a1 c1 hl i hi hi'
    · exact hp _ _ c1 a1 hl i hi' hi
  · exact (h.lo _ (hmem n hn) _ (.inr (.inr (.inl rfl)))).2.2 e
  · rintro i (e | e | ⟨n, hn, hi⟩)
    · have e : i = bb := e
      have := h.b0; omega
    · have e : i = nb := e
      have := h.n0; omega
    · exact (h.lo _ (hmem n hn) _ hi).1

set_option maxRecDepth 100000 in
set_option maxHeartbeats 4000000 in
theorem bgNew_any (w : World) (room life : Int) (hl0 : 0 ≤ life) (hl1 : life < 18446744073709551616) {rm : Int} (hrm : min (max room 1) 64 = rm) :
    Calls Tryd.prog 5 #[.int .i64 room, .int .u64 life] w fun e w' => ∃ B, e = .returned (.pointer (some ⟨B.bb, 0, none⟩)) ∧ BrAt w' rm life B AB.new ∧ (∀ i, B.all i → w.heap.size ≤ i) ∧ Fr No w w' := by
  have hmm := @run_makeMap Tryd.prog
  have HRM := Lib.hid hrm
  clear hrm
  go_enter Tryd.func5, Tryd.ntmps5
  go_wp2_with fail
  have hst : NewI w ((w.alloc (.map #[] 0)).alloc (.cells #[.pointer none, .pointer none, .pointer none, .pointer none, .pointer none, .pointer none, .pointer none, .pointer none, .map (some w.heap.size)] 50)) rm life (w.heap.size + 1) w.heap.size 0 [] :=
    ⟨by have := heap_alloc_new (w.alloc (.map #[] 0)) (.cells #[.pointer none, .pointer none, .pointer none, .pointer none, .pointer none, .pointer none, .pointer none, .pointer none, .map (some w.heap.size)] 50)
        simpa using this, rfl, (Mp.made w).no ((Fr.refl No _).alloc _), (fun m hm => by cases hm), (fun m hm => by cases hm), List.Pairwise.nil, ((Fr.refl No w).alloc _).alloc _, by omega, Nat.le_refl _⟩
  generalize World.alloc _ _ = w2 at hst ⊢
  have HST := Lib.hid hst
  clear hst
  go_loopw [10] (fun t10 wr => ∃ (k : Nat) (ms : List SgM), k ≤ 8 ∧ t10 = .int .i64 k ∧ NewI w wr rm life (w.heap.size + 1) w.heap.size k ms) (fun t10 _ => 8 - (intOf t10).toNat)
  case atStart => exact ⟨0, [], by omega, rfl, HST.out⟩
  case round =>
    obtain ⟨k, ms, hk, rfl, hi⟩ := hrel
    have HI := Lib.hid hi
    by_cases hlt : k < 8
    · have n1 : (k : Int) < 8 := by omega
      clear hi
      go_wp2_with fail
      go_region_held3 (fun w' => True) (trivial)
        (first | (go_at_call 13; refine (fbNew_any _ room life hl0 hl1).mono ?_; rw [HRM.out]; rintro e w1 ⟨rfl, fd1, f1⟩; have c1 := f1.cell (p := ⟨w.heap.size + 1, k, none⟩) (HI.out.cell hlt) (fun h => h); have z1 := frozen_of_row w1 (w.heap.size + 1) k _ _ (f1.heap HI.out.box (fun h => h)); have d1 := fun o => al_cell c1 o; have y1 := fun o => frozen_of_row (w1.alloc o) (w.heap.size + 1) k _ _ (((Fr.refl No w1).alloc o).heap (f1.heap HI.out.box (fun h => h)) (fun h => h))))
      simp only [World.size_drew] at fd1
      have f2 : Fr No wr w1 := (Fr.refl No wr).drew.trans f1
      obtain ⟨ms', hn⟩ := HI.out.step hlt fd1 f2 (by omega) (by omega)
      have HN := Lib.hid hn
      clear hn c1 z1 fd1 d1 y1
      go_wp2_with fail
      go_roundw
      case rel => exact ⟨k + 1, ms', by omega, by go_num, HN.out⟩
      case measure => simp [intOf]; omega
    · obtain rfl : k = 8 := by omega
      clear hi
      go_wp2_with fail
      go_ret
      obtain ⟨h1, h2⟩ := HI.out.done
      exact ⟨⟨w.heap.size + 1, w.heap.size, ms⟩, rfl, h1, h2, HI.out.fr⟩
end Go.Proofs.YticebdoiahadoaaDoor
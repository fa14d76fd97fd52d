/- bridge: FromPort, FromTunnel. -/
import Derived.Test.YticebdoiahadoaaBg9
namespace Go.Proofs.Yticebdoiahadoaa
open Go.RowKit
set_option linter.unusedVariables false
set_option linter.unusedSimpArgs false

/-- What a frame leaves of the bridge. -/
def GoesP (w : World) (B : BrM) (room life : Int) (r : AOut × Int × AB) (e : Ending) (w' : World) : Prop :=
  ∃ B' po pc qo qc, e = .returned (.tuple #[.agg #[.slice po r.1.ps.length pc, .slice qo r.1.qs.length qc, .bool r.1.fl], .int .i64 r.2.1]) ∧ OI w' po r.1.ps.length pc r.1.ps ∧ OI w' qo r.1.qs.length qc r.1.qs ∧
    (∀ a, po = some a → w.heap.size ≤ a.block ∧ ¬ BrM.all B' a.block) ∧ (∀ a, qo = some a → w.heap.size ≤ a.block ∧ ¬ BrM.all B' a.block) ∧ BrAt w' room life B' r.2.2 ∧ BrM.sub w B B' ∧ Fr B.all w w'

theorem BrAt.framed {w w1 : World} {room life : Int} {B : BrM} {X : AB} (h : BrAt w room life B X) {n : Int} (hn : okSeg n) {r1 : AOut × Int × AL} {e : Ending} (hf : FrameP w (B.at n) room life r1 e w1) :
    GoesP w B room life (r1.1, r1.2.1, X.put n ⟨r1.2.2, (X.at n).ps, (X.at n).qs⟩) e w1 := by
  obtain ⟨po, pc, qo, qc, L', he, hp, hq, gp, gq, fd, ab, nb, fr⟩ := hf
  have hs := (h.seg n hn).turn fd ab fr
  generalize hm' : (⟨(B.at n).sb, (B.at n).tb, (B.at n).mb, L', (B.at n).po, (B.at n).pn, (B.at n).pc, (B.at n).qo, (B.at n).qn, (B.at n).qc⟩ : SgM) = m' at hs
  have hall : ∀ k, m'.all k → (B.at n).all k ∨ w.heap.size ≤ k := by
    subst hm'
    rintro k (h1 | h1 | h1 | ⟨p, hp, h1⟩ | h1 | h1)
    · exact .inl (.inl h1)
    · exact .inl (.inr (.inl h1))
    · exact .inl (.inr (.inr (.inl h1)))
    · rcases nb p hp with ⟨q, hq, h2⟩ | h2
      · exact .inl (.inr (.inr (.inr (.inl ⟨q, hq, by rw [h1, h2]⟩))))
      · exact .inr (by rw [h1]; exact h2)
    · exact .inl (.inr (.inr (.inr (.inr (.inl h1)))))
    · exact .inl (.inr (.inr (.inr (.inr (.inr h1)))))
  have hfr : Fr (fun k => (B.at n).all k ∨ k = B.nb) w w1 := fr.mono (fun k _ hk => .inl (fs_all hk))
  have hm : Mp okI evI evI w1 B.nb X.bd := h.mp.fr fr (by
    rintro (e | ⟨p, hp, e⟩)
    · exact h.nbd n hn e.symm
    · obtain ⟨es, c, hm, -⟩ := h.mp.ex
      have := (h.seg n hn).fd.ent p hp
      unfold EnAt at this
      rw [← e, hm] at this; cases this)
  have hst := h.step hn hfr (fun k _ hk => hk) hs (by subst hm'; rfl) (by subst hm'; rfl) hall hm (h.good.base hn r1.2.2)
  have hsub := BrM.sub_set h.mlen hn (m := m') (by subst hm'; rfl) (by subst hm'; rfl) hall
  have hnot : ∀ {ao : Option Addr} {k c : Nat} {zs : List Int}, OI w1 ao k c zs → (∀ a, ao = some a → w.heap.size ≤ a.block) → ∀ a, ao = some a → w.heap.size ≤ a.block ∧ ¬ BrM.all (B.set n m') a.block := by
    intro ao k c zs ho hg a ha
    have hge := hg a ha
    refine ⟨hge, ?_⟩
    obtain ⟨-, cur, g2, -⟩ := ho.2.row a ha
    rintro (h1 | h1 | ⟨j, hj, h1⟩)
    · have : B.bb < w.heap.size := lt_of_heap h.box
      have h2 : a.block = B.bb := h1
      omega
    · have : B.nb < w.heap.size := h.mp.lt
      have h2 : a.block = B.nb := h1
      omega
    · rw [BrM.at_set h.mlen hn hj] at h1
      split at h1
      · rcases hall _ h1 with h2 | h2
        · have := (h.seg n hn).lt h2; omega
        · subst hm'
          rcases h1 with h1 | h1 | h1 | ⟨p, hp, h1⟩ | h1 | h1
          · have := (h.seg n hn).lt (k := a.block) (.inl h1); omega
          · have := (h.seg n hn).lt (k := a.block) (.inr (.inl h1)); omega
          · have := (h.seg n hn).lt (k := a.block) (.inr (.inr (.inl h1))); omega
          · have h3 := fd.ent p hp
            unfold EnAt at h3
            rw [← h1, g2] at h3; simp at h3
          · have := (h.seg n hn).lt (k := a.block) (.inr (.inr (.inr (.inr (.inl h1))))); omega
          · have := (h.seg n hn).lt (k := a.block) (.inr (.inr (.inr (.inr (.inr h1))))); omega
      · have := (h.seg j hj).lt h1; omega
  exact ⟨B.set n m', po, pc, qo, qc, he, hp, hq, hnot hp gp, hnot hq gq, hst, hsub, hfr.mono (fun k _ hk => by
    rcases hk with hk | hk
    · exact .inr (.inr ⟨n, hn, hk⟩)
    · exact .inr (.inl hk))⟩
/-- Nothing goes. -/
theorem BrAt.goesNone {w w' : World} {room life : Int} {B : BrM} {X : AB} (h : BrAt w room life B X) (hf : Fr No w w') (c : Int) : GoesP w B room life (noOut, c, X) (.returned (.tuple #[.agg #[.slice none 0 0, .slice none 0 0, .bool false], .int .i64 c])) w' :=
  ⟨B, none, 0, none, 0, rfl, OI.nil _, OI.nil _, (fun a h => by cases h), (fun a h => by cases h), h.no hf, BrM.sub_refl _ _, hf.of_no⟩
/-- From a world with one more block, which is written behind it. -/
theorem GoesP.boxed {w w1 w2 : World} {room life : Int} {B : BrM} {r : AOut × Int × AB} {e : Ending} {o : Obj} (hlt : ∀ k, B.all k → k < w.heap.size) (h : GoesP (w.alloc o) B room life r e w1) (hf : Fr (Is w.heap.size) w1 w2) : GoesP w B room life r e w2 := by
  obtain ⟨B', po, pc, qo, qc, he, hp, hq, gp, gq, hb, hsub, fr⟩ := h
  simp only [World.size_alloc] at gp gq
  have hsz : (w.alloc o).heap.size = w.heap.size + 1 := by simp
  refine ⟨B', po, pc, qo, qc, he, hp.fr hf (fun a ha e => ?_), hq.fr hf (fun a ha e => ?_), (fun a ha => ⟨by have := (gp a ha).1; omega, (gp a ha).2⟩), (fun a ha => ⟨by have := (gq a ha).1; omega, (gq a ha).2⟩), hb.fr hf (fun k hk e => ?_), ⟨hsub.bb, hsub.nb, hsub.sb, hsub.tb, fun k hk => (hsub.all k hk).imp id (fun h => by omega)⟩, ?_⟩
  · have := (gp a ha).1; simp only [Is] at e; omega
  · have := (gq a ha).1; simp only [Is] at e; omega
  · simp only [Is] at e
    rcases hsub.all k hk with h1 | h1
    · have := hlt k h1; omega
    · omega
  · have f0 : Fr B.all w w1 := ((Fr.refl B.all w).alloc o).trans fr
    exact f0.then hf (fun i hi e => by simp only [Is] at e; omega)

set_option maxRecDepth 100000 in
set_option maxHeartbeats 4000000 in
theorem bgFromPort_any {w : World} {room life : Int} {B : BrM} {X : AB} (h : BrAt w room life B X) {p : Int} (hp : okI p) {ao : Option Addr} {n cap : Nat} {bs : List UInt8} (hb : Bs w ao n cap bs) {now : Int} (hn0 : 0 ≤ now) (hn1 : now < 18446744073709551616) {r : AOut × Int × AB} (hr : aFromPort room life X p bs now = r) :
    Calls Try.prog 15 #[.pointer (some ⟨B.bb, 0, none⟩), .int .i64 p, .slice ao n cap, .int .u64 now] w (GoesP w B room life r) := by
  have H := Lib.hid h
  have k8 := h.mcell
  have lk := h.look hp (w.alloc (.cells #[.slice none 0 0, .slice none 0 0, .bool false] 34)) (Below.heap_alloc w _ _ h.mp.lt)
  have HP := Lib.hid hp
  have HB := Lib.hid hb
  cases hg : mget X.bd p with
  | none =>
    have hx : r = (noOut, 6, X) := by rw [← hr]; unfold aFromPort; rw [hg]
    subst hx
    rw [hg] at lk
    simp only [Option.getD_none, Option.isSome_none] at lk
    have ltb : B.bb < w.heap.size := lt_of_heap h.box
    clear hr h hb hg
    generalize hbb : B.bb = bb at k8 ltb ⊢
    generalize hnb : B.nb = nb at k8 lk
    clear hbb hnb
    go_enter Try.func15, Try.ntmps15
    go_wp2_with fail
    have hz := heap_alloc_new w (.cells #[.slice none 0 0, .slice none 0 0, .bool false] 34)
    have hf := (Fr.refl No w).alloc (.cells #[.slice none 0 0, .slice none 0 0, .bool false] 34)
    generalize World.alloc _ _ = wz at hz hf ⊢
    obtain ⟨s0, s1, s2⟩ := cells3 hz
    refine bodyPost_ret (v := .tuple #[.agg #[.slice none 0 0, .slice none 0 0, .bool false], .int .i64 6]) (by simp [results, Try.results15, go_sem, s0, s1, s2]) rfl ?_
    exact H.out.goesNone hf 6
  | some i =>
    have hi : okSeg i := (h.good.bk p i hg).2
    obtain ⟨r1, hr1⟩ : ∃ r1, aFrame room life (X.at i) ⟨false, p⟩ bs now = r1 := ⟨_, rfl⟩
    have hx : r = (r1.1, r1.2.1, X.put i ⟨r1.2.2, (X.at i).ps, (X.at i).qs⟩) := by rw [← hr]; unfold aFromPort; rw [hg]; simp only [hr1]
    have HX := Lib.hid hx
    have HR1 := Lib.hid hr1
    have HI := Lib.hid hi
    rw [hg] at lk
    simp only [Option.getD_some, Option.isSome_some] at lk
    have ltb : B.bb < w.heap.size := lt_of_heap h.box
    have HLT := Lib.hid (fun k (hk : B.all k) => h.lt hk)
    have f0 := (Fr.refl No w).alloc (.cells #[.slice none 0 0, .slice none 0 0, .bool false] 34)
    have hc := f0.cell (h.cell hi) (fun h => h)
    have k8 := f0.cell k8 (fun h => h)
    have hz := heap_alloc_new w (.cells #[.slice none 0 0, .slice none 0 0, .bool false] 34)
    have H0 := Lib.hid (h.no f0)
    have HB0 := Lib.hid (hb.no f0)
    have n0 : ¬ i < 0 := by obtain ⟨a, b⟩ := hi; omega
    have n1 : i < 8 := hi.2
    have n2 : 0 ≤ i := hi.1
    clear hr h hb hg hx hr1 hi
    generalize hbb : B.bb = bb at k8 hc ltb ⊢
    generalize hnb : B.nb = nb at k8 lk
    clear hbb hnb
    go_enter Try.func15, Try.ntmps15
    go_upto_region 4 with fail
    obtain ⟨wz, hwz⟩ : ∃ wz, w.alloc (.cells #[.slice none 0 0, .slice none 0 0, .bool false] 34) = wz := ⟨_, rfl⟩
    have HWZ := Lib.hid hwz
    simp only [hwz] at hz H0 HB0 hc k8 ⊢
    clear lk hwz
    have RZ := Lib.hid hz
    have SB := Lib.hid (H0.out.seg i HI.out)
    have CA := Lib.hid (bgFrame_any (H0.out.seg i HI.out) (H0.out.good.pl HI.out) (H0.out.good.ql i HI.out) ⟨false, p⟩ (show -9223372036854775808 ≤ p ∧ p ≤ 9223372036854775807 from HP.out) HB0.out hn0 hn1 HR1.out)
    generalize hsb : (B.at i).sb = sb at hc
    have HSB := Lib.hid hsb
    clear hsb
    clear hz
    go_wp2_with fail
    rw [← HSB.out]
    refine CA.out.mono ?_
    rintro e w1 hfp
    obtain ⟨B', po, pc, qo, qc, rfl, c1, c2, g1, g2, b1, t1, f1⟩ := H0.out.framed HI.out hfp
    obtain ⟨⟨rps, rqs, rfl2⟩, rc, rA⟩ := r1
    have R1 := Lib.hid (f1.heap RZ.out (fun hk => by have := HLT.out _ hk; omega))
    have G1 := Lib.hid (show GoesP wz B room life ((⟨rps, rqs, rfl2⟩ : AOut), rc, X.put i ⟨rA, (X.at i).ps, (X.at i).qs⟩) (.returned (.tuple #[.agg #[.slice po rps.length pc, .slice qo rqs.length qc, .bool rfl2], .int .i64 rc])) w1 from ⟨B', po, pc, qo, qc, rfl, c1, c2, g1, g2, b1, t1, f1⟩)
    simp only
    obtain ⟨s0, s1, s2⟩ := cells3 R1.out
    obtain ⟨z0, z1, z2⟩ := free3 R1.out
    clear hfp c1 c2 g1 g2 b1 t1 f1
    go_wp2_with fail
    have hz := set3 R1.out (.slice po rps.length pc) (.slice qo rqs.length qc) (.bool rfl2)
    have f3 := frIs3 w1 w.heap.size (.slice po rps.length pc) (.slice qo rqs.length qc) (.bool rfl2)
    clear s0 s1 s2 z0 z1 z2
    generalize World.setCell _ _ _ = wq at hz f3 ⊢
    obtain ⟨s0, s1, s2⟩ := cells3 hz
    refine bodyPost_ret (v := .tuple #[.agg #[.slice po rps.length pc, .slice qo rqs.length qc, .bool rfl2], .int .i64 rc]) (by simp [results, Try.results15, go_sem, s0, s1, s2]) rfl ?_
    rw [HX.out]
    have G2 := G1.out
    rw [← HWZ.out] at G2
    exact GoesP.boxed HLT.out G2 f3
end Go.Proofs.Yticebdoiahadoaa

/- bridge: Bind. -/
import Derived.Test.YticebdoiahadoaaBg7
namespace Go.Proofs.Yticebdoiahadoaa
open Go.RowKit
set_option linter.unusedVariables false
set_option linter.unusedSimpArgs false

theorem BrAt.lenRun {w : World} {room life : Int} {B : BrM} {X : AB} (h : BrAt w room life B X) : (Builtin.len_ #[76] 3 #[.map (some B.nb)]).run Try.prog w = .ok (.int .i64 (X.bd.length : Int)) w := h.mp.len (P := Try.prog) Try.underlying76 3
theorem bind_yes {X : AB} {p t : Int} (hp : 0 ≤ p) (ht : okSeg t) (h1 : mget X.bd p ≠ some t) (h2 : ¬ (mget X.bd p = none ∧ 16 ≤ X.bd.length)) : aBind X p t = (0, ⟨mput (aUnbind X p).2.bd p t, (aUnbind X p).2.sg.set t.toNat (bindS ((aUnbind X p).2.at t) p)⟩) := by
  unfold aBind
  rw [if_neg (by rintro (h | h); omega; exact h ht), if_neg h1, if_neg h2]

set_option maxRecDepth 100000 in
set_option maxHeartbeats 8000000 in
theorem bgBind_any {w : World} {room life : Int} {B : BrM} {X : AB} (h : BrAt w room life B X) {p t : Int} (hp : okI p) {c : Int} {X' : AB} (hr : aBind X p t = (c, X')) :
    Calls Try.prog 21 #[.pointer (some ⟨B.bb, 0, none⟩), .int .i64 p, .int .i64 t] w fun e w' => e = .returned (.int .i64 c) ∧ BrOut w B room life X' w' := by
  have H := Lib.hid h
  have HGD := Lib.hid (show Good X' by have := h.good.bind (p := p) (t := t) hp.2; rw [hr] at this; exact this)
  have k8 := h.mcell
  have lk := h.look hp w rfl
  have LN := Lib.hid h.lenRun
  have HP := Lib.hid hp
  by_cases hn : okSeg t
  · have HS := Lib.hid (bgSegment0_in h hn)
    have HI := Lib.hid hn
    by_cases hp0 : p < 0
    · have hx : c = 1 ∧ X' = X := by
        unfold aBind at hr
        rw [if_pos (.inl hp0)] at hr
        cases hr; exact ⟨rfl, rfl⟩
      obtain ⟨rfl, rfl⟩ := hx
      clear hr h hn
      generalize hbb : B.bb = bb at HS k8 ⊢
      generalize hnb : B.nb = nb at k8 lk
      generalize (B.at t).sb = sb at HS
      clear hbb hnb LN
      go_enter Try.func21, Try.ntmps21
      go_wp2_with fail
      refine HS.out.mono ?_
      rintro e w1 ⟨rfl, rfl⟩
      go_wp2_with fail
      go_ret
      exact ⟨rfl, H.out.out (Fr.refl No _)⟩
    have hp0' : 0 ≤ p := by omega
    by_cases hgt : mget X.bd p = some t
    · have hx : c = 0 ∧ X' = X := by
        unfold aBind at hr
        rw [if_neg (by rintro (h | h); exact hp0 h; exact h hn), if_pos hgt] at hr
        cases hr; exact ⟨rfl, rfl⟩
      obtain ⟨rfl, rfl⟩ := hx
      rw [hgt] at lk
      simp only [Option.getD_some, Option.isSome_some] at lk
      clear hr h hn hgt
      generalize hbb : B.bb = bb at HS k8 ⊢
      generalize hnb : B.nb = nb at k8 lk
      generalize (B.at t).sb = sb at HS
      clear hbb hnb LN
      go_enter Try.func21, Try.ntmps21
      go_wp2_with fail
      refine HS.out.mono ?_
      rintro e w1 ⟨rfl, rfl⟩
      go_wp2_with fail
      go_ret
      exact ⟨rfl, H.out.out (Fr.refl No _)⟩
    by_cases hfull : mget X.bd p = none ∧ 16 ≤ X.bd.length
    · have hx : c = 5 ∧ X' = X := by
        unfold aBind at hr
        rw [if_neg (by rintro (h | h); exact hp0 h; exact h hn), if_neg hgt, if_pos hfull] at hr
        cases hr; exact ⟨rfl, rfl⟩
      obtain ⟨rfl, rfl⟩ := hx
      obtain ⟨hg, hl⟩ := hfull
      rw [hg] at lk
      simp only [Option.getD_none, Option.isSome_none] at lk
      have hl2 : (16 : Int) ≤ (X'.bd.length : Int) := by omega
      have ln := LN.out
      clear hr h hn hgt hg hl
      generalize hbb : B.bb = bb at HS k8 ⊢
      generalize hnb : B.nb = nb at k8 lk ln
      generalize (B.at t).sb = sb at HS
      clear hbb hnb LN
      go_enter Try.func21, Try.ntmps21
      go_wp2_with fail
      refine HS.out.mono ?_
      rintro e w1 ⟨rfl, rfl⟩
      go_wp2_with fail
      go_ret
      exact ⟨rfl, H.out.out (Fr.refl No _)⟩
    have hyes := bind_yes hp0' hn hgt hfull
    obtain ⟨⟨c1, Y⟩, hY⟩ : ∃ r, aUnbind X p = r := ⟨_, rfl⟩
    rw [hY] at hyes
    rw [hyes] at hr
    have hx : c = 0 ∧ X' = ⟨mput Y.bd p t, Y.sg.set t.toNat (bindS (Y.at t) p)⟩ := by cases hr; exact ⟨rfl, rfl⟩
    obtain ⟨rfl, hX'⟩ := hx
    have HX' := Lib.hid hX'
    have HY := Lib.hid hY
    have hgY := h.good.unbind p
    have hnY := unbind_none h.good p
    rw [hY] at hgY hnY
    have HGY := Lib.hid hgY
    have HNY := Lib.hid hnY
    have hcase : (mget X.bd p = none ∧ X.bd.length < 16) ∨ ∃ i, mget X.bd p = some i ∧ i ≠ t := by
      cases hg : mget X.bd p with
      | none => exact .inl ⟨rfl, by apply Classical.byContradiction; intro hh; exact hfull ⟨hg, by omega⟩⟩
      | some i => exact .inr ⟨i, rfl, fun e => hgt (by rw [hg, e])⟩
    clear hr hX' hY hgY hnY hyes hfull hgt h hn
    generalize hbb : B.bb = bb at HS k8 ⊢
    have HBB := Lib.hid hbb
    clear hbb
    generalize hsb : (B.at t).sb = sb at HS
    have HSB := Lib.hid hsb
    clear hsb
    generalize hnb : B.nb = nb at k8 lk LN
    have HNB := Lib.hid hnb
    clear hnb
    rcases hcase with ⟨hg, hl⟩ | ⟨i, hg, hit⟩
    · rw [hg] at lk
      simp only [Option.getD_none, Option.isSome_none] at lk
      have hl2 : ¬ (16 : Int) ≤ (X.bd.length : Int) := by omega
      have ln := LN.out
      clear hg hl LN
      go_enter Try.func21, Try.ntmps21
      go_wp2_with fail
      refine HS.out.mono ?_
      rintro e w1 ⟨rfl, rfl⟩
      go_wp2_with fail
      rw [← HBB.out]
      refine (bgUnbind_any H.out HP.out HY.out).mono ?_
      rintro e w2 ⟨rfl, B1, hB1, hsub, f1⟩
      rw [HBB.out]
      have H1 := Lib.hid hB1
      have SUB := Lib.hid hsub
      have F1 := Lib.hid f1
      clear hB1 hsub f1 k8 lk
      have hbb1 : B1.bb = bb := by rw [SUB.out.bb, HBB.out]
      have hnb1 : B1.nb = nb := by rw [SUB.out.nb, HNB.out]
      have k8 := H1.out.mcell
      rw [hbb1, hnb1] at k8
      obtain ⟨w4, hput, m4, f4, s4⟩ := Mp.put (P := Try.prog) H1.out.mp keI Try.underlying76 (k := p) HP.out t
      rw [hnb1] at hput m4 f4
      simp only [evI] at hput
      have hS := H1.out.seg t HI.out
      have S4 := Lib.hid (hS.fr f4 (by
        intro k hk e
        obtain ⟨es, c, hm, -⟩ := H1.out.mp.ex
        exact hS.nbne hm (H1.out.nbd t HI.out) (by rw [hnb1, ← show k = nb from e]; exact hk)))
      have M4 := Lib.hid m4
      have F4 := Lib.hid f4
      have SZ := Lib.hid s4
      have HB1 := Lib.hid hnb1
      have hsb1 : (B1.at t).sb = sb := by rw [SUB.out.sb t HI.out, HSB.out]
      have hpl := HGY.out.pl HI.out
      clear hnb1 m4 f4 s4 hS hbb1
      generalize hmm : B1.at t = m at S4 hsb1
      obtain ⟨sb', tb, mb, L, po, pn, pc, qo, qn, qc⟩ := m
      simp only at hsb1
      subst hsb1
      have HMM := Lib.hid hmm
      clear hmm
      obtain ⟨k0, k1, k2⟩ := S4.out.cells
      simp only at k0 k1 k2
      go_wp2_with fail
      have hpn : pn ≤ 100000 := by have h1 := S4.out.p.1; simp only at h1; omega
      refine (bgWith_any S4.out.p (HGY.out.rp t HI.out) hpn p (fun hm => by
        have := (HGY.out.mem t HI.out p).1 hm
        rw [HNY.out] at this; cases this)).mono ?_
      rintro e w5 ⟨bo, bc, rfl, ob, f5, hbn⟩
      have S5 := Lib.hid (S4.out.no f5)
      have O5 := Lib.hid ob
      have F5 := Lib.hid (F4.out.then_no f5)
      have M5 := Lib.hid (M4.out.no f5)
      have HB5 := Lib.hid hbn
      clear ob f5 hbn k0 k1 k2
      have hb5 := S5.out.box
      simp only at hb5
      have z1 := frozen_of_row w5 sb' 1 _ _ hb5
      obtain ⟨k0, k1, k2⟩ := S5.out.cells
      simp only at k0 k1 k2
      have HB5b := Lib.hid hb5
      clear hb5
      go_wp2_with fail
      go_ret
      have hb6 := set_row HB5b.out 1 (.slice bo (addI (Y.at t).ps p).length bc)
      have f6 : Fr (Is sb') w5 (w5.setCell ⟨sb', 1, none⟩ (.slice bo (addI (Y.at t).ps p).length bc)) := (Fr.refl (Is sb') w5).setCell (p := ⟨sb', 1, none⟩) (.inl rfl) _
      have S6 := S5.out.slices O5.out S5.out.q hb6 f6
      have M6 := M5.out.fr f6 (fun e => by
        obtain ⟨es, c, hm, -⟩ := M5.out.ex
        rw [show nb = sb' from e, HB5b.out] at hm; cases hm)
      refine ⟨rfl, ?_⟩
      have hgd := HGD.out
      rw [HX'.out] at hgd ⊢
      have hs4 := SZ.out
      refine BrOut.trans SUB.out F1.out ?_
      refine H1.out.did HI.out ?_ S6 (by rw [HMM.out]) (by rw [HMM.out]) (by rw [HMM.out]) ?_ (by rw [HB1.out]; exact M6) hgd
      · rw [HMM.out, HB1.out]
        exact (F5.out.mono (S' := fun k => SgM.all ⟨sb', tb, mb, L, po, pn, pc, qo, qn, qc⟩ k ∨ k = nb) (fun k _ e => .inr e)).then f6 (fun k _ e => .inl (.inl e))
      · rw [HMM.out]
        rintro k (h | h | h | ⟨q, hq, h⟩ | ⟨a, ha, h⟩ | ⟨a, ha, h⟩)
        · exact .inl (.inl h)
        · exact .inl (.inr (.inl h))
        · exact .inl (.inr (.inr (.inl h)))
        · exact .inl (.inr (.inr (.inr (.inl ⟨q, hq, h⟩))))
        · exact .inr (by have := HB5.out a ha; omega)
        · exact .inl (.inr (.inr (.inr (.inr (.inr ⟨a, ha, h⟩)))))
    · rw [hg] at lk
      simp only [Option.getD_some, Option.isSome_some] at lk
      have hit2 : (i == t) = false := by simpa using hit
      clear hg hit LN
      go_enter Try.func21, Try.ntmps21
      go_wp2_with fail
      refine HS.out.mono ?_
      rintro e w1 ⟨rfl, rfl⟩
      go_wp2_with fail
      rw [← HBB.out]
      refine (bgUnbind_any H.out HP.out HY.out).mono ?_
      rintro e w2 ⟨rfl, B1, hB1, hsub, f1⟩
      rw [HBB.out]
      have H1 := Lib.hid hB1
      have SUB := Lib.hid hsub
      have F1 := Lib.hid f1
      clear hB1 hsub f1 k8 lk
      have hbb1 : B1.bb = bb := by rw [SUB.out.bb, HBB.out]
      have hnb1 : B1.nb = nb := by rw [SUB.out.nb, HNB.out]
      have k8 := H1.out.mcell
      rw [hbb1, hnb1] at k8
      obtain ⟨w4, hput, m4, f4, s4⟩ := Mp.put (P := Try.prog) H1.out.mp keI Try.underlying76 (k := p) HP.out t
      rw [hnb1] at hput m4 f4
      simp only [evI] at hput
      have hS := H1.out.seg t HI.out
      have S4 := Lib.hid (hS.fr f4 (by
        intro k hk e
        obtain ⟨es, c, hm, -⟩ := H1.out.mp.ex
        exact hS.nbne hm (H1.out.nbd t HI.out) (by rw [hnb1, ← show k = nb from e]; exact hk)))
      have M4 := Lib.hid m4
      have F4 := Lib.hid f4
      have SZ := Lib.hid s4
      have HB1 := Lib.hid hnb1
      have hsb1 : (B1.at t).sb = sb := by rw [SUB.out.sb t HI.out, HSB.out]
      have hpl := HGY.out.pl HI.out
      clear hnb1 m4 f4 s4 hS hbb1
      generalize hmm : B1.at t = m at S4 hsb1
      obtain ⟨sb', tb, mb, L, po, pn, pc, qo, qn, qc⟩ := m
      simp only at hsb1
      subst hsb1
      have HMM := Lib.hid hmm
      clear hmm
      obtain ⟨k0, k1, k2⟩ := S4.out.cells
      simp only at k0 k1 k2
      go_wp2_with fail
      have hpn : pn ≤ 100000 := by have h1 := S4.out.p.1; simp only at h1; omega
      refine (bgWith_any S4.out.p (HGY.out.rp t HI.out) hpn p (fun hm => by
        have := (HGY.out.mem t HI.out p).1 hm
        rw [HNY.out] at this; cases this)).mono ?_
      rintro e w5 ⟨bo, bc, rfl, ob, f5, hbn⟩
      have S5 := Lib.hid (S4.out.no f5)
      have O5 := Lib.hid ob
      have F5 := Lib.hid (F4.out.then_no f5)
      have M5 := Lib.hid (M4.out.no f5)
      have HB5 := Lib.hid hbn
      clear ob f5 hbn k0 k1 k2
      have hb5 := S5.out.box
      simp only at hb5
      have z1 := frozen_of_row w5 sb' 1 _ _ hb5
      obtain ⟨k0, k1, k2⟩ := S5.out.cells
      simp only at k0 k1 k2
      have HB5b := Lib.hid hb5
      clear hb5
      go_wp2_with fail
      go_ret
      have hb6 := set_row HB5b.out 1 (.slice bo (addI (Y.at t).ps p).length bc)
      have f6 : Fr (Is sb') w5 (w5.setCell ⟨sb', 1, none⟩ (.slice bo (addI (Y.at t).ps p).length bc)) := (Fr.refl (Is sb') w5).setCell (p := ⟨sb', 1, none⟩) (.inl rfl) _
      have S6 := S5.out.slices O5.out S5.out.q hb6 f6
      have M6 := M5.out.fr f6 (fun e => by
        obtain ⟨es, c, hm, -⟩ := M5.out.ex
        rw [show nb = sb' from e, HB5b.out] at hm; cases hm)
      refine ⟨rfl, ?_⟩
      have hgd := HGD.out
      rw [HX'.out] at hgd ⊢
      have hs4 := SZ.out
      refine BrOut.trans SUB.out F1.out ?_
      refine H1.out.did HI.out ?_ S6 (by rw [HMM.out]) (by rw [HMM.out]) (by rw [HMM.out]) ?_ (by rw [HB1.out]; exact M6) hgd
      · rw [HMM.out, HB1.out]
        exact (F5.out.mono (S' := fun k => SgM.all ⟨sb', tb, mb, L, po, pn, pc, qo, qn, qc⟩ k ∨ k = nb) (fun k _ e => .inr e)).then f6 (fun k _ e => .inl (.inl e))
      · rw [HMM.out]
        rintro k (h | h | h | ⟨q, hq, h⟩ | ⟨a, ha, h⟩ | ⟨a, ha, h⟩)
        · exact .inl (.inl h)
        · exact .inl (.inr (.inl h))
        · exact .inl (.inr (.inr (.inl h)))
        · exact .inl (.inr (.inr (.inr (.inl ⟨q, hq, h⟩))))
        · exact .inr (by have := HB5.out a ha; omega)
        · exact .inl (.inr (.inr (.inr (.inr (.inr ⟨a, ha, h⟩)))))
  · have hx : c = 1 ∧ X' = X := by
      unfold aBind at hr
      rw [if_pos (.inr hn)] at hr
      cases hr; exact ⟨rfl, rfl⟩
    obtain ⟨rfl, rfl⟩ := hx
    have HO := Lib.hid (fun bb => bgSegment0_out (w := w) (bb := bb) hn)
    clear hr h hn LN
    generalize hbb : B.bb = bb at k8 ⊢
    generalize hnb : B.nb = nb at k8 lk
    generalize (mget X'.bd p).getD 0 = i0 at lk
    generalize (mget X'.bd p).isSome = b0 at lk
    clear hbb hnb
    by_cases hp0 : p < 0
    · go_enter Try.func21, Try.ntmps21
      go_wp2_with fail
      refine (HO.out bb).mono ?_
      rintro e w1 ⟨rfl, rfl⟩
      go_wp2_with fail
      go_ret
      exact ⟨rfl, H.out.out (Fr.refl No _)⟩
    · go_enter Try.func21, Try.ntmps21
      go_wp2_with fail
      refine (HO.out bb).mono ?_
      rintro e w1 ⟨rfl, rfl⟩
      go_wp2_with fail
      go_ret
      exact ⟨rfl, H.out.out (Fr.refl No _)⟩
end Go.Proofs.Yticebdoiahadoaa

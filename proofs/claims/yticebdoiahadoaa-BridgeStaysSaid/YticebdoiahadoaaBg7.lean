/- bridge: Unpeer, Peer, Bind. -/
import Derived.Test.YticebdoiahadoaaBg6
namespace Go.Proofs.Yticebdoiahadoaa
open Go.RowKit
set_option linter.unusedVariables false
set_option linter.unusedSimpArgs false

/-- What a segment's parts tell: the base's map is not the bound ports' one. -/
theorem BrAt.mbnb {w : World} {room life : Int} {B : BrM} {X : AB} (h : BrAt w room life B X) {n : Int} (hn : okSeg n) {mb : Nat} (hm : (B.at n).mb = mb) : ¬ Is mb B.nb := fun e => by
  have := h.nbd n hn
  rw [hm] at this
  exact this (show B.nb = mb from e).symm

set_option maxRecDepth 100000 in
set_option maxHeartbeats 4000000 in
theorem bgUnpeer_any {w : World} {room life : Int} {B : BrM} {X : AB} (h : BrAt w room life B X) {n t : Int} {c : Int} {X' : AB} (hr : aUnpeer X n t = (c, X')) :
    Calls Try.prog 27 #[.pointer (some ⟨B.bb, 0, none⟩), .int .i64 n, .int .i64 t] w fun e w' => e = .returned (.int .i64 c) ∧ BrOut w B room life X' w' := by
  have H := Lib.hid h
  by_cases hn : okSeg n
  · have HS := Lib.hid (bgSegment0_in h hn)
    have S0 := Lib.hid (h.seg n hn)
    have hql := h.good.ql n hn
    have HLT := Lib.hid (fun k hk => (h.seg n hn).lt (k := k) hk)
    have HI := Lib.hid hn
    by_cases ht : t ∈ (X.at n).qs
    · have hx : c = 0 ∧ X' = X.put n ⟨aforget (X.at n).A ⟨true, t⟩, (X.at n).ps, delI (X.at n).qs t⟩ := by
        unfold aUnpeer at hr
        rw [if_neg (by rintro (h | h); exact h hn; exact h ht)] at hr
        cases hr; exact ⟨rfl, rfl⟩
      obtain ⟨rfl, hX'⟩ := hx
      have HGD := Lib.hid (show Good X' by have := h.good.unpeer n t; rw [hr] at this; exact this)
      have HX' := Lib.hid hX'
      have hct : decide (t ∈ (X.at n).qs) = true := decide_eq_true ht
      have HCT := Lib.hid hct
      clear hr hX' h hn ht hct
      generalize hmm : B.at n = m at S0 HLT HS
      obtain ⟨sb, tb, mb, L, po, pn, pc, qo, qn, qc⟩ := m
      have HMM := Lib.hid hmm
      clear hmm
      generalize hbb : B.bb = bb at HS ⊢
      have HBB := Lib.hid hbb
      clear hbb
      go_enter Try.func27, Try.ntmps27
      go_wp2_with fail
      refine HS.out.mono ?_
      rintro e w1 ⟨rfl, rfl⟩
      obtain ⟨k0, k1, k2⟩ := S0.out.cells
      simp only at k0 k1 k2
      go_wp2_with fail
      refine (containsI_any S0.out.q.sl t HCT.out).mono ?_
      rintro e w1 ⟨rfl, rfl⟩
      go_wp2_with fail
      have hqn : qn ≤ 100000 := by have h1 := S0.out.q.1; simp only at h1; omega
      refine (bgWithout_any S0.out.q hqn t).mono ?_
      rintro e w5 ⟨bo, bc, rfl, ob, f5, hbn⟩
      have S5 := Lib.hid (S0.out.no f5)
      have O5 := Lib.hid ob
      have F5 := Lib.hid f5
      have M5 := Lib.hid (H.out.mp.no f5)
      have HB5 := Lib.hid hbn
      clear ob f5 hbn k0 k1 k2
      have hb5 := S5.out.box
      simp only at hb5
      have z1 := frozen_of_row w5 sb 2 _ _ hb5
      obtain ⟨k0, k1, k2⟩ := S5.out.cells
      simp only at k0 k1 k2
      have HB5b := Lib.hid hb5
      clear hb5
      go_wp2_with fail
      have hb6 := set_row HB5b.out 2 (.slice bo (delI (X.at n).qs t).length bc)
      have f6 : Fr (Is sb) w5 (w5.setCell ⟨sb, 2, none⟩ (.slice bo (delI (X.at n).qs t).length bc)) := (Fr.refl (Is sb) w5).setCell (p := ⟨sb, 2, none⟩) (.inl rfl) _
      have S6 := Lib.hid (S5.out.slices S5.out.p O5.out hb6 f6)
      have M6 := Lib.hid (M5.out.fr f6 (fun e => by
        obtain ⟨es, c, hm, -⟩ := M5.out.ex
        rw [show B.nb = sb from e, HB5b.out] at hm; cases hm))
      have G6 := Lib.hid f6
      have hs6 := f6.size
      clear hb6 f6 k0 k1 k2 z1 M5
      generalize w5.setCell ⟨sb, 2, none⟩ (.slice bo (delI (X.at n).qs t).length bc) = w6 at S6 M6 G6 hs6 ⊢
      refine (fbForget_at S6.out.fd S6.out.ab ⟨true, t⟩ rfl).mono ?_
      rintro e w7 ⟨rfl, L', h7, a7, n7, f7⟩
      have S7 := Lib.hid (S6.out.turn h7 a7 (f7.mono (fun _ _ h => .inl h)))
      have M7 := Lib.hid (M6.out.fr f7 (H.out.mbnb HI.out (by rw [HMM.out])))
      have G7 := Lib.hid f7
      have N7 := Lib.hid n7
      clear h7 a7 n7 f7 M6
      go_wp2_with fail
      go_ret
      refine ⟨rfl, ?_⟩
      have hgd := HGD.out
      rw [HX'.out] at hgd ⊢
      have hs5 := F5.out.size
      refine H.out.did HI.out ?_ S7.out (by rw [HMM.out]) (by rw [HMM.out]) (by rw [HMM.out]) ?_ M7.out hgd
      · rw [HMM.out]
        exact ((F5.out.of_no (S := fun k => SgM.all ⟨sb, tb, mb, L, po, pn, pc, qo, qn, qc⟩ k ∨ k = B.nb)).then G6.out (fun k _ e => .inl (.inl e))).then G7.out (fun k _ e => .inl (.inr (.inr (.inl e))))
      · rw [HMM.out]
        rintro k (h | h | h | ⟨q, hq, h⟩ | ⟨a, ha, h⟩ | ⟨a, ha, h⟩)
        · exact .inl (.inl h)
        · exact .inl (.inr (.inl h))
        · exact .inl (.inr (.inr (.inl h)))
        · rcases N7.out q hq with ⟨q', hq', e⟩ | e
          · exact .inl (.inr (.inr (.inr (.inl ⟨q', hq', by rw [h, e]⟩))))
          · exact .inr (by omega)
        · exact .inl (.inr (.inr (.inr (.inr (.inl ⟨a, ha, h⟩)))))
        · exact .inr (by have := HB5.out a ha; omega)
    · have hx : c = 6 ∧ X' = X := by
        unfold aUnpeer at hr
        rw [if_pos (.inr ht)] at hr
        cases hr; exact ⟨rfl, rfl⟩
      obtain ⟨rfl, rfl⟩ := hx
      have hct : decide (t ∈ (X'.at n).qs) = false := decide_eq_false ht
      have HCT := Lib.hid hct
      clear hr h hn ht hct
      generalize hmm : B.at n = m at S0 HLT HS
      obtain ⟨sb, tb, mb, L, po, pn, pc, qo, qn, qc⟩ := m
      clear hmm
      generalize hbb : B.bb = bb at HS ⊢
      clear hbb
      go_enter Try.func27, Try.ntmps27
      go_wp2_with fail
      refine HS.out.mono ?_
      rintro e w1 ⟨rfl, rfl⟩
      obtain ⟨k0, k1, k2⟩ := S0.out.cells
      simp only at k0 k1 k2
      go_wp2_with fail
      refine (containsI_any S0.out.q.sl t HCT.out).mono ?_
      rintro e w1 ⟨rfl, rfl⟩
      go_wp2_with fail
      go_ret
      exact ⟨rfl, H.out.out (Fr.refl No _)⟩
  · have hx : c = 6 ∧ X' = X := by
      unfold aUnpeer at hr
      rw [if_pos (.inl hn)] at hr
      cases hr; exact ⟨rfl, rfl⟩
    obtain ⟨rfl, rfl⟩ := hx
    have HO := Lib.hid (fun bb => bgSegment0_out (w := w) (bb := bb) hn)
    clear hr h hn
    generalize hbb : B.bb = bb
    go_enter Try.func27, Try.ntmps27
    go_wp2_with fail
    refine (HO.out bb).mono ?_
    rintro e w1 ⟨rfl, rfl⟩
    go_wp2_with fail
    go_ret
    exact ⟨rfl, H.out.out (Fr.refl No _)⟩

set_option maxRecDepth 100000 in
set_option maxHeartbeats 4000000 in
theorem bgPeer_any {w : World} {room life : Int} {B : BrM} {X : AB} (h : BrAt w room life B X) {n t : Int} (ht63 : t ≤ 9223372036854775807) {c : Int} {X' : AB} (hr : aPeer X n t = (c, X')) :
    Calls Try.prog 25 #[.pointer (some ⟨B.bb, 0, none⟩), .int .i64 n, .int .i64 t] w fun e w' => e = .returned (.int .i64 c) ∧ BrOut w B room life X' w' := by
  have H := Lib.hid h
  have HGD := Lib.hid (show Good X' by have := h.good.peer (n := n) (t := t) ht63; rw [hr] at this; exact this)
  by_cases hn : okSeg n
  · have HS := Lib.hid (bgSegment0_in h hn)
    have S0 := Lib.hid (h.seg n hn)
    have hql := h.good.ql n hn
    have HRQ := Lib.hid (h.good.rq n hn)
    have HLT := Lib.hid (fun k hk => (h.seg n hn).lt (k := k) hk)
    have HI := Lib.hid hn
    have hqn := S0.out.q.1
    have HQN := Lib.hid hqn
    by_cases ht0 : t < 0
    · have hx : c = 1 ∧ X' = X := by
        unfold aPeer at hr
        rw [if_pos (.inl ht0)] at hr
        cases hr; exact ⟨rfl, rfl⟩
      obtain ⟨rfl, rfl⟩ := hx
      clear hr h hn hqn
      generalize hmm : B.at n = m at S0 HLT HS
      generalize hbb : B.bb = bb at HS ⊢
      clear hmm hbb
      go_enter Try.func25, Try.ntmps25
      go_wp2_with fail
      refine HS.out.mono ?_
      rintro e w1 ⟨rfl, rfl⟩
      go_wp2_with fail
      go_ret
      exact ⟨rfl, H.out.out (Fr.refl No _)⟩
    by_cases ht : t ∈ (X.at n).qs
    · have hx : c = 0 ∧ X' = X := by
        unfold aPeer at hr
        rw [if_neg (by rintro (h | h); exact ht0 h; exact h hn), if_pos ht] at hr
        cases hr; exact ⟨rfl, rfl⟩
      obtain ⟨rfl, rfl⟩ := hx
      have HCT := Lib.hid (show decide (t ∈ (X'.at n).qs) = true from decide_eq_true ht)
      clear hr h hn ht hqn
      generalize hmm : B.at n = m at S0 HLT HS
      obtain ⟨sb, tb, mb, L, po, pn, pc, qo, qn, qc⟩ := m
      generalize hbb : B.bb = bb at HS ⊢
      clear hmm hbb
      go_enter Try.func25, Try.ntmps25
      go_wp2_with fail
      refine HS.out.mono ?_
      rintro e w1 ⟨rfl, rfl⟩
      obtain ⟨k0, k1, k2⟩ := S0.out.cells
      simp only at k0 k1 k2
      go_wp2_with fail
      refine (containsI_any S0.out.q.sl t HCT.out).mono ?_
      rintro e w1 ⟨rfl, rfl⟩
      go_wp2_with fail
      go_ret
      exact ⟨rfl, H.out.out (Fr.refl No _)⟩
    have HCT := Lib.hid (show decide (t ∈ (X.at n).qs) = false from decide_eq_false ht)
    by_cases h8 : 8 ≤ (X.at n).qs.length
    · have hx : c = 5 ∧ X' = X := by
        unfold aPeer at hr
        rw [if_neg (by rintro (h | h); exact ht0 h; exact h hn), if_neg ht, if_pos h8] at hr
        cases hr; exact ⟨rfl, rfl⟩
      obtain ⟨rfl, rfl⟩ := hx
      clear hr h hn ht hqn
      generalize hmm : B.at n = m at S0 HLT HS HQN
      obtain ⟨sb, tb, mb, L, po, pn, pc, qo, qn, qc⟩ := m
      simp only at HQN
      have hqq : (8 : Int) ≤ (qn : Int) := by have := HQN.out; omega
      generalize hbb : B.bb = bb at HS ⊢
      clear hmm hbb h8
      go_enter Try.func25, Try.ntmps25
      go_wp2_with fail
      refine HS.out.mono ?_
      rintro e w1 ⟨rfl, rfl⟩
      obtain ⟨k0, k1, k2⟩ := S0.out.cells
      simp only at k0 k1 k2
      go_wp2_with fail
      refine (containsI_any S0.out.q.sl t HCT.out).mono ?_
      rintro e w1 ⟨rfl, rfl⟩
      go_wp2_with fail
      go_ret
      exact ⟨rfl, H.out.out (Fr.refl No _)⟩
    · have hx : c = 0 ∧ X' = X.put n ⟨(X.at n).A, (X.at n).ps, addI (X.at n).qs t⟩ := by
        unfold aPeer at hr
        rw [if_neg (by rintro (h | h); exact ht0 h; exact h hn), if_neg ht, if_neg h8] at hr
        cases hr; exact ⟨rfl, rfl⟩
      obtain ⟨rfl, hX'⟩ := hx
      have HX' := Lib.hid hX'
      have HT := Lib.hid ht
      clear hr hX' h hn ht hqn
      generalize hmm : B.at n = m at S0 HLT HS HQN
      obtain ⟨sb, tb, mb, L, po, pn, pc, qo, qn, qc⟩ := m
      simp only at HQN
      have HMM := Lib.hid hmm
      have hqq : ¬ (8 : Int) ≤ (qn : Int) := by have := HQN.out; omega
      generalize hbb : B.bb = bb at HS ⊢
      clear hmm hbb h8
      go_enter Try.func25, Try.ntmps25
      go_wp2_with fail
      refine HS.out.mono ?_
      rintro e w1 ⟨rfl, rfl⟩
      obtain ⟨k0, k1, k2⟩ := S0.out.cells
      simp only at k0 k1 k2
      go_wp2_with fail
      refine (containsI_any S0.out.q.sl t HCT.out).mono ?_
      rintro e w1 ⟨rfl, rfl⟩
      go_wp2_with fail
      refine (bgWith_any S0.out.q HRQ.out (by simp only; omega) t HT.out).mono ?_
      rintro e w5 ⟨bo, bc, rfl, ob, f5, hbn⟩
      have S5 := Lib.hid (S0.out.no f5)
      have O5 := Lib.hid ob
      have F5 := Lib.hid f5
      have M5 := Lib.hid (H.out.mp.no f5)
      have HB5 := Lib.hid hbn
      clear ob f5 hbn k0 k1 k2
      have hb5 := S5.out.box
      simp only at hb5
      have z1 := frozen_of_row w5 sb 2 _ _ hb5
      obtain ⟨k0, k1, k2⟩ := S5.out.cells
      simp only at k0 k1 k2
      have HB5b := Lib.hid hb5
      clear hb5
      go_wp2_with fail
      go_ret
      have hb6 := set_row HB5b.out 2 (.slice bo (addI (X.at n).qs t).length bc)
      have f6 : Fr (Is sb) w5 (w5.setCell ⟨sb, 2, none⟩ (.slice bo (addI (X.at n).qs t).length bc)) := (Fr.refl (Is sb) w5).setCell (p := ⟨sb, 2, none⟩) (.inl rfl) _
      have S6 := S5.out.slices S5.out.p O5.out hb6 f6
      have M6 := M5.out.fr f6 (fun e => by
        obtain ⟨es, c, hm, -⟩ := M5.out.ex
        rw [show B.nb = sb from e, HB5b.out] at hm; cases hm)
      refine ⟨rfl, ?_⟩
      have hgd := HGD.out
      rw [HX'.out] at hgd ⊢
      refine H.out.did HI.out ?_ S6 (by rw [HMM.out]) (by rw [HMM.out]) (by rw [HMM.out]) ?_ M6 hgd
      · rw [HMM.out]
        exact (F5.out.of_no (S := fun k => SgM.all ⟨sb, tb, mb, L, po, pn, pc, qo, qn, qc⟩ k ∨ k = B.nb)).then f6 (fun k _ e => .inl (.inl e))
      · rw [HMM.out]
        rintro k (h | h | h | ⟨q, hq, h⟩ | ⟨a, ha, h⟩ | ⟨a, ha, h⟩)
        · exact .inl (.inl h)
        · exact .inl (.inr (.inl h))
        · exact .inl (.inr (.inr (.inl h)))
        · exact .inl (.inr (.inr (.inr (.inl ⟨q, hq, h⟩))))
        · exact .inl (.inr (.inr (.inr (.inr (.inl ⟨a, ha, h⟩)))))
        · exact .inr (by have := HB5.out a ha; omega)
  · have hx : c = 1 ∧ X' = X := by
      unfold aPeer at hr
      rw [if_pos (.inr hn)] at hr
      cases hr; exact ⟨rfl, rfl⟩
    obtain ⟨rfl, rfl⟩ := hx
    have HO := Lib.hid (fun bb => bgSegment0_out (w := w) (bb := bb) hn)
    clear hr h hn
    generalize hbb : B.bb = bb
    by_cases ht0 : t < 0
    · go_enter Try.func25, Try.ntmps25
      go_wp2_with fail
      refine (HO.out bb).mono ?_
      rintro e w1 ⟨rfl, rfl⟩
      go_wp2_with fail
      go_ret
      exact ⟨rfl, H.out.out (Fr.refl No _)⟩
    · go_enter Try.func25, Try.ntmps25
      go_wp2_with fail
      refine (HO.out bb).mono ?_
      rintro e w1 ⟨rfl, rfl⟩
      go_wp2_with fail
      go_ret
      exact ⟨rfl, H.out.out (Fr.refl No _)⟩
end Go.Proofs.Yticebdoiahadoaa

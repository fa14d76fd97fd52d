/- bridge: segment, Segment, Base, Ports, Peers. bridge: Unbind, Bind, Peer, Unpeer. bridge: Unpeer, Peer, Bind. bridge: Bind. -/
import Derived.Test.YticebdoiahadoaaDoorBg4
namespace Go.Proofs.YticebdoiahadoaaDoor
open Go.RowKit
set_option linter.unusedVariables false
set_option linter.unusedSimpArgs false
set_option maxRecDepth 100000 in
set_option maxHeartbeats 1000000 in
theorem bgSegment0_in {w : World} {room life : Int} {B : BrM} {X : AB} (h : BrAt w room life B X) {n : Int} (hn : okSeg n) :
    Calls Tryd.prog 14 #[.pointer (some ⟨B.bb, 0, none⟩), .int .i64 n] w fun e w' => e = .returned (.pointer (some ⟨(B.at n).sb, 0, none⟩)) ∧ w = w' := by
  have hc := h.cell hn
  obtain ⟨h0, h1⟩ := hn
  have n0 : ¬ n < 0 := by omega
  have n1 : ¬ 8 ≤ n := by omega
  generalize (B.at n).sb = sb at hc ⊢
  clear h
  go_enter Tryd.func14, Tryd.ntmps14
  go_wp2
  go_ret
  exact ⟨rfl, rfl⟩
set_option maxRecDepth 100000 in
set_option maxHeartbeats 1000000 in
theorem bgSegment0_out {w : World} {bb : Nat} {n : Int} (hn : ¬ okSeg n) :
    Calls Tryd.prog 14 #[.pointer (some ⟨bb, 0, none⟩), .int .i64 n] w fun e w' => e = .returned (.pointer none) ∧ w = w' := by
  have hh : n < 0 ∨ (¬ n < 0 ∧ 8 ≤ n) := by unfold okSeg at hn; omega
  rcases hh with n0 | ⟨n0, n1⟩
  · go_enter Tryd.func14, Tryd.ntmps14
    go_wp2
    go_ret
    exact ⟨rfl, rfl⟩
  · go_enter Tryd.func14, Tryd.ntmps14
    go_wp2
    go_ret
    exact ⟨rfl, rfl⟩
/-- The map of the bound ports is asked. -/
theorem BrAt.look {w : World} {room life : Int} {B : BrM} {X : AB} (h : BrAt w room life B X) {p : Int} (hp : okI p) (W : World) (hW : W.heap[B.nb]? = w.heap[B.nb]?) :
    (Instr.lookup 46 (.map (some B.nb)) (.int .i64 p) true).run Tryd.prog W = .ok (.tuple #[.int .i64 ((mget X.bd p).getD 0), .bool (mget X.bd p).isSome]) W := by
  have h1 := (h.mp.of_heap hW).look keI Tryd.underlying46 zeroI hp true
  simp only [if_true, evI] at h1
  rw [h1]
  cases mget X.bd p <;> rfl
set_option maxRecDepth 100000 in
set_option maxHeartbeats 1000000 in
theorem bgBase_in {w : World} {room life : Int} {B : BrM} {X : AB} (h : BrAt w room life B X) {n : Int} (hn : okSeg n) :
    Calls Tryd.prog 6 #[.pointer (some ⟨B.bb, 0, none⟩), .int .i64 n] w fun e w' => e = .returned (.pointer (some ⟨(B.at n).tb, 0, none⟩)) ∧ w = w' := by
  have HS := Lib.hid (bgSegment0_in h hn)
  obtain ⟨k0, k1, k2⟩ := (h.seg n hn).cells
  generalize (B.at n).sb = sb at HS k0 k1 k2
  generalize (B.at n).tb = tb at k0 ⊢
  clear h
  go_enter Tryd.func6, Tryd.ntmps6
  go_wp2_with fail
  refine HS.out.mono ?_
  rintro e w1 ⟨rfl, rfl⟩
  go_wp2_with fail
  go_ret
  exact ⟨rfl, rfl⟩
set_option maxRecDepth 100000 in
set_option maxHeartbeats 1000000 in
theorem bgBase_out {w : World} {bb : Nat} {n : Int} (hn : ¬ okSeg n) :
    Calls Tryd.prog 6 #[.pointer (some ⟨bb, 0, none⟩), .int .i64 n] w fun e w' => e = .returned (.pointer none) ∧ w = w' := by
  go_enter Tryd.func6, Tryd.ntmps6
  go_wp2_with fail
  refine (bgSegment0_out hn).mono ?_
  rintro e w1 ⟨rfl, rfl⟩
  go_wp2_with fail
  go_ret
  exact ⟨rfl, rfl⟩
end Go.Proofs.YticebdoiahadoaaDoor
namespace Go.Proofs.YticebdoiahadoaaDoor
open Go.RowKit
set_option linter.unusedVariables false
set_option linter.unusedSimpArgs false
/-- A segment's ports and peers are laid anew. -/
theorem SgAt.slices {w w' : World} {room life : Int} {m : SgM} {s : AS} (h : SgAt w room life m s) {po : Option Addr} {pn pc : Nat} {ps : List Int} {qo : Option Addr} {qn qc : Nat} {qs : List Int} (hp : OI w po pn pc ps) (hq : OI w qo qn qc qs)
    (hb : w'.heap[m.sb]? = some (.cells #[.pointer (some ⟨m.tb, 0, none⟩), .slice po pn pc, .slice qo qn qc] 53 (0, 0))) (hf : Fr (Is m.sb) w w') :
    SgAt w' room life ⟨m.sb, m.tb, m.mb, m.L, po, pn, pc, qo, qn, qc⟩ ⟨s.A, ps, qs⟩ := by
  obtain ⟨n1, n2, n3, n4, n5⟩ := h.sbne
  have hne : ∀ {ao : Option Addr} {n c : Nat} {zs : List Int}, OI w ao n c zs → Out (Is m.sb) ao := by
    intro ao n c zs ho a ha e
    obtain ⟨-, cur, h2, -⟩ := ho.2.row a ha
    rw [show a.block = m.sb from e, h.box] at h2
    have := types_ne.2.2.1
    simp at h2
  exact ⟨hb, h.fd.fr hf (fun e => n1 e.symm) (fun e => n2 e.symm) (fun p hp e => n3 p hp e), h.ab, hp.fr hf (hne hp), hq.fr hf (hne hq)⟩
/-- A segment's base turns. -/
theorem SgAt.turn {w w' : World} {room life : Int} {m : SgM} {s : AS} (h : SgAt w room life m s) {L' : FL} {A' : AL} (h1 : Fd w' m.tb m.mb room life L') (h2 : Ab L' A') (hf : Fr (FS m.mb m.L) w w') :
    SgAt w' room life ⟨m.sb, m.tb, m.mb, L', m.po, m.pn, m.pc, m.qo, m.qn, m.qc⟩ ⟨A', s.ps, s.qs⟩ := by
  obtain ⟨n1, n2, n3, n4, n5⟩ := h.sbne
  have hne : ∀ {ao : Option Addr} {n c : Nat} {zs : List Int}, OI w ao n c zs → Out (FS m.mb m.L) ao := by
    intro ao n c zs ho a ha e
    obtain ⟨-, cur, g2, -⟩ := ho.2.row a ha
    rcases e with e | ⟨p, hp, e⟩
    · obtain ⟨es, c, hm, -⟩ := h.fd.mp.ex
      rw [e, hm] at g2; cases g2
    · have := h.fd.ent p hp
      unfold EnAt at this
      have ht := types_ne.2.2.2.2.2.2.2.2
      rw [e, this] at g2; simp at g2
  refine ⟨hf.heap h.box ?_, h1, h2, h.p.fr hf (hne h.p), h.q.fr hf (hne h.q)⟩
  rintro (e | ⟨p, hp, e⟩)
  · exact n2 e
  · exact n3 p hp e.symm
theorem fs_all {m : SgM} {k : Nat} (h : FS m.mb m.L k) : m.all k := by
  rcases h with h | ⟨p, hp, h⟩
  · exact .inr (.inr (.inl h))
  · exact .inr (.inr (.inr (.inl ⟨p, hp, h⟩)))
/-- What an operation of a bridge leaves. -/
def BrOut (w : World) (B : BrM) (room life : Int) (X' : AB) (w' : World) : Prop := ∃ B', BrAt w' room life B' X' ∧ BrM.sub w B B' ∧ Fr B.all w w'
theorem BrAt.out {w w' : World} {room life : Int} {B : BrM} {X : AB} (h : BrAt w room life B X) (hf : Fr No w w') : BrOut w B room life X w' := ⟨B, h.no hf, BrM.sub_refl _ _, hf.of_no⟩
theorem BrOut.trans {w w1 w2 : World} {B B1 : BrM} {room life : Int} {X' : AB} (h1 : BrM.sub w B B1) (f1 : Fr B.all w w1) (h2 : BrOut w1 B1 room life X' w2) : BrOut w B room life X' w2 := by
  obtain ⟨B2, b2, s2, f2⟩ := h2
  refine ⟨B2, b2, h1.trans s2 f1.size, f1.then f2 (fun i hi h => ?_)⟩
  rcases h1.all i h with h3 | h3
  · exact h3
  · omega
/-- One segment turned, and the map. -/
theorem BrAt.did {w w' : World} {room life : Int} {B : BrM} {X : AB} (h : BrAt w room life B X) {n : Int} (hn : okSeg n) (hf : Fr (fun k => (B.at n).all k ∨ k = B.nb) w w') {m : SgM} {s : AS} (hs : SgAt w' room life m s)
    (hsb : m.sb = (B.at n).sb) (htb : m.tb = (B.at n).tb) (hmb : m.mb = (B.at n).mb) (hall : ∀ k, m.all k → (B.at n).all k ∨ w.heap.size ≤ k) {bd : List (Int × Int)} (hm : Mp okI evI evI w' B.nb bd) (hg : Good ⟨bd, X.sg.set n.toNat s⟩) :
    BrOut w B room life ⟨bd, X.sg.set n.toNat s⟩ w' :=
  ⟨B.set n m, h.step hn hf (fun k _ hk => hk) hs hsb hmb hall hm hg, BrM.sub_set h.mlen hn hsb htb hall, hf.mono (fun k _ hk => by
    rcases hk with hk | hk
    · exact .inr (.inr ⟨n, hn, hk⟩)
    · exact .inr (.inl hk))⟩

set_option maxRecDepth 100000 in
set_option maxHeartbeats 4000000 in
theorem bgUnbind_any {w : World} {room life : Int} {B : BrM} {X : AB} (h : BrAt w room life B X) {p : Int} (hp : okI p) {c : Int} {X' : AB} (hr : aUnbind X p = (c, X')) :
    Calls Tryd.prog 15 #[.pointer (some ⟨B.bb, 0, none⟩), .int .i64 p] w fun e w' => e = .returned (.int .i64 c) ∧ BrOut w B room life X' w' := by
  have H := Lib.hid h
  have k8 := h.mcell
  have lk := h.look hp w rfl
  cases hg : mget X.bd p with
  | none =>
    have hx : c = 6 ∧ X' = X := by unfold aUnbind at hr; rw [hg] at hr; cases hr; exact ⟨rfl, rfl⟩
    obtain ⟨rfl, rfl⟩ := hx
    rw [hg] at lk
    simp only [Option.getD_none, Option.isSome_none] at lk
    clear h hr hg
    go_enter Tryd.func15, Tryd.ntmps15
    go_wp2_with fail
    go_ret
    exact ⟨rfl, H.out.out (Fr.refl No w)⟩
  | some i =>
    have hi := (h.good.bk p i hg).2
    have hx : c = 0 ∧ X' = ⟨mdel X.bd p, X.sg.set i.toNat (unbindS (X.at i) p)⟩ := by unfold aUnbind at hr; rw [hg] at hr; cases hr; exact ⟨rfl, rfl⟩
    obtain ⟨rfl, hX'⟩ := hx
    have HGD := Lib.hid (show Good X' by have := h.good.unbind p; rw [hr] at this; exact this)
    have HX' := Lib.hid hX'
    rw [hg] at lk
    simp only [Option.getD_some, Option.isSome_some] at lk
    obtain ⟨w4, hdel, m4, f4, s4⟩ := h.mp.del (P := Tryd.prog) keI Tryd.underlying46 (k := p) hp (ty := 0)
    simp only [evI] at hdel
    have hS := h.seg i hi
    have hnb : ∀ k, (B.at i).all k → ¬ Is B.nb k := by
      intro k hk e
      obtain ⟨es, c, hm, -⟩ := h.mp.ex
      exact hS.nbne hm (h.nbd i hi) (by rw [← show k = B.nb from e]; exact hk)
    have S4 := Lib.hid (hS.fr f4 hnb)
    have c4 : w4.cell? ⟨B.bb, i.toNat, none⟩ = some (.pointer (some ⟨(B.at i).sb, 0, none⟩)) := f4.cell (h.cell hi) (fun e => by
      obtain ⟨es, c, hm, -⟩ := h.mp.ex
      have := h.box; rw [show B.bb = B.nb from e, hm] at this; cases this)
    have hpl := h.good.pl hi
    have HI := Lib.hid hi
    have M4 := Lib.hid m4
    have F4 := Lib.hid f4
    have SZ := Lib.hid s4
    have hlt : ∀ k, (B.at i).all k → k < w.heap.size := fun k hk => hS.lt hk
    have HLT := Lib.hid hlt
    obtain ⟨hi0, hi1⟩ := hi
    clear hr hX' h hg m4 f4 s4 hS hnb hlt
    generalize hmm : B.at i = m at S4 c4 HLT
    obtain ⟨sb, tb, mb, L, po, pn, pc, qo, qn, qc⟩ := m
    have HMM := Lib.hid hmm
    clear hmm
    simp only at c4
    generalize hbb : B.bb = bb at k8 c4 ⊢
    generalize hnb : B.nb = nb at k8 lk hdel M4 F4
    have HBB := Lib.hid hbb
    have HNB := Lib.hid hnb
    clear hbb hnb
    go_enter Tryd.func15, Tryd.ntmps15
    obtain ⟨k0, k1, k2⟩ := S4.out.cells
    simp only at k0 k1 k2
    go_wp2_with fail
    have hpn : pn ≤ 100000 := by have h1 := S4.out.p.1; simp only at h1; omega
    refine (bgWithout_any S4.out.p hpn p).mono ?_
    rintro e w5 ⟨bo, bc, rfl, ob, f5, hbn⟩
    have S5 := Lib.hid (S4.out.no f5)
    have O5 := Lib.hid ob
    have F5 := Lib.hid (F4.out.then_no f5)
    have M5 := Lib.hid (M4.out.no f5)
    have G5 := Lib.hid f5
    have HB5 := Lib.hid hbn
    clear ob f5 hbn k0 k1 k2
    have hb5 := S5.out.box
    simp only at hb5
    have z1 := frozen_of_row w5 sb 1 _ _ hb5
    obtain ⟨k0, k1, k2⟩ := S5.out.cells
    simp only at k0 k1 k2
    have HB5b := Lib.hid hb5
    clear hb5
    go_wp2_with fail
    have hb6 := set_row HB5b.out 1 (.slice bo (delI (X.at i).ps p).length bc)
    have f6 : Fr (Is sb) w5 (w5.setCell ⟨sb, 1, none⟩ (.slice bo (delI (X.at i).ps p).length bc)) := (Fr.refl (Is sb) w5).setCell (p := ⟨sb, 1, none⟩) (.inl rfl) _
    have S6 := Lib.hid (S5.out.slices O5.out S5.out.q hb6 f6)
    have M6 := Lib.hid (M5.out.fr f6 (fun e => by
      obtain ⟨es, c, hm, -⟩ := M5.out.ex
      rw [show nb = sb from e, HB5b.out] at hm; cases hm))
    have G6 := Lib.hid f6
    have hs6 := f6.size
    clear hb6 f6 k0 k1 k2 z1 M5
    generalize w5.setCell ⟨sb, 1, none⟩ (.slice bo (delI (X.at i).ps p).length bc) = w6 at S6 M6 G6 hs6 ⊢
    refine (fbForget_at S6.out.fd S6.out.ab ⟨false, p⟩ rfl).mono ?_
    rintro e w7 ⟨rfl, L', h7, a7, n7, f7⟩
    have S7 := Lib.hid (S6.out.turn h7 a7 (f7.mono (fun _ _ h => .inl h)))
    have M7 := Lib.hid (M6.out.fr f7 (fun e => by
      have := H.out.nbd i HI.out
      rw [HMM.out, HNB.out] at this
      exact this (show nb = mb from e).symm))
    have G7 := Lib.hid f7
    have N7 := Lib.hid n7
    clear h7 a7 n7 f7 M6
    go_wp2_with fail
    go_ret
    refine ⟨rfl, ?_⟩
    have hgd := HGD.out
    rw [HX'.out] at hgd ⊢
    have hs4 := SZ.out
    have hs5 := G5.out.size
    refine H.out.did HI.out ?_ S7.out (by rw [HMM.out]) (by rw [HMM.out]) (by rw [HMM.out]) ?_ (by rw [HNB.out]; exact M7.out) hgd
    · rw [HMM.out, HNB.out]
      exact ((F5.out.mono (S' := fun k => SgM.all ⟨sb, tb, mb, L, po, pn, pc, qo, qn, qc⟩ k ∨ k = nb) (fun k _ e => .inr e)).then G6.out (fun k _ e => .inl (.inl e))).then G7.out (fun k _ e => .inl (.inr (.inr (.inl e))))
    · rw [HMM.out]
      rintro k (h | h | h | ⟨q, hq, h⟩ | ⟨a, ha, h⟩ | ⟨a, ha, h⟩)
      · exact .inl (.inl h)
      · exact .inl (.inr (.inl h))
      · exact .inl (.inr (.inr (.inl h)))
      · rcases N7.out q hq with ⟨q', hq', e⟩ | e
        · exact .inl (.inr (.inr (.inr (.inl ⟨q', hq', by rw [h, e]⟩))))
        · exact .inr (by omega)
      · exact .inr (by have := HB5.out a ha; omega)
      · exact .inl (.inr (.inr (.inr (.inr (.inr ⟨a, ha, h⟩)))))
end Go.Proofs.YticebdoiahadoaaDoor
namespace Go.Proofs.YticebdoiahadoaaDoor
open Go.RowKit
set_option linter.unusedVariables false
set_option linter.unusedSimpArgs false
/-- What a segment's parts tell: the base's map is not the bound ports' one. -/
theorem BrAt.mbnb {w : World} {room life : Int} {B : BrM} {X : AB} (h : BrAt w room life B X) {n : Int} (hn : okSeg n) {mb : Nat} (hm : (B.at n).mb = mb) : ¬ Is mb B.nb := fun e => by
  have := h.nbd n hn
  rw [hm] at this
  exact this (show B.nb = mb from e).symm

set_option maxRecDepth 100000 in
set_option maxHeartbeats 4000000 in
theorem bgPeer_any {w : World} {room life : Int} {B : BrM} {X : AB} (h : BrAt w room life B X) {n t : Int} (ht63 : t ≤ 9223372036854775807) {c : Int} {X' : AB} (hr : aPeer X n t = (c, X')) :
    Calls Tryd.prog 8 #[.pointer (some ⟨B.bb, 0, none⟩), .int .i64 n, .int .i64 t] w fun e w' => e = .returned (.int .i64 c) ∧ BrOut w B room life X' w' := by
  have H := Lib.hid h
  have HGD := Lib.hid (show Good X' by have := h.good.peer (n := n) (t := t) ht63; rw [hr] at this; exact this)
  by_cases hn : okSeg n
  · have HS := Lib.hid (bgSegment0_in h hn)
    have S0 := Lib.hid (h.seg n hn)
    have hql := h.good.ql n hn
    have HRQ := Lib.hid (h.good.rq n hn)
    have HLT := Lib.hid (fun k hk => (h.seg n hn).lt (k := k) hk)
    have HI := Lib.hid hn
    have hqn := S0.out.q.1
    have HQN := Lib.hid hqn
    by_cases ht0 : t < 0
    · have hx : c = 1 ∧ X' = X := by
        unfold aPeer at hr
        rw [if_pos (.inl ht0)] at hr
        cases hr; exact ⟨rfl, rfl⟩
      obtain ⟨rfl, rfl⟩ := hx
      clear hr h hn hqn
      generalize hmm : B.at n = m at S0 HLT HS
      generalize hbb : B.bb = bb at HS ⊢
      clear hmm hbb
      go_enter Tryd.func8, Tryd.ntmps8
      go_wp2_with fail
      refine HS.out.mono ?_
      rintro e w1 ⟨rfl, rfl⟩
      go_wp2_with fail
      go_ret
      exact ⟨rfl, H.out.out (Fr.refl No _)⟩
    by_cases ht : t ∈ (X.at n).qs
    · have hx : c = 0 ∧ X' = X := by
        unfold aPeer at hr
        rw [if_neg (by rintro (h | h); exact ht0 h; exact h hn), if_pos ht] at hr
        cases hr; exact ⟨rfl, rfl⟩
      obtain ⟨rfl, rfl⟩ := hx
      have HCT := Lib.hid (show decide (t ∈ (X'.at n).qs) = true from decide_eq_true ht)
      clear hr h hn ht hqn
      generalize hmm : B.at n = m at S0 HLT HS
      obtain ⟨sb, tb, mb, L, po, pn, pc, qo, qn, qc⟩ := m
      generalize hbb : B.bb = bb at HS ⊢
      clear hmm hbb
      go_enter Tryd.func8, Tryd.ntmps8
      go_wp2_with fail
      refine HS.out.mono ?_
      rintro e w1 ⟨rfl, rfl⟩
      obtain ⟨k0, k1, k2⟩ := S0.out.cells
      simp only at k0 k1 k2
      go_wp2_with fail
      refine (containsI_any S0.out.q.sl t HCT.out).mono ?_
      rintro e w1 ⟨rfl, rfl⟩
      go_wp2_with fail
      go_ret
      exact ⟨rfl, H.out.out (Fr.refl No _)⟩
    have HCT := Lib.hid (show decide (t ∈ (X.at n).qs) = false from decide_eq_false ht)
    by_cases h8 : 8 ≤ (X.at n).qs.length
    · have hx : c = 5 ∧ X' = X := by
        unfold aPeer at hr
        rw [if_neg (by rintro (h | h); exact ht0 h; exact h hn), if_neg ht, if_pos h8] at hr
        cases hr; exact ⟨rfl, rfl⟩
      obtain ⟨rfl, rfl⟩ := hx
      clear hr h hn ht hqn
      generalize hmm : B.at n = m at S0 HLT HS HQN
      obtain ⟨sb, tb, mb, L, po, pn, pc, qo, qn, qc⟩ := m
      simp only at HQN
      have hqq : (8 : Int) ≤ (qn : Int) := by have := HQN.out; omega
      generalize hbb : B.bb = bb at HS ⊢
      clear hmm hbb h8
      go_enter Tryd.func8, Tryd.ntmps8
      go_wp2_with fail
      refine HS.out.mono ?_
      rintro e w1 ⟨rfl, rfl⟩
      obtain ⟨k0, k1, k2⟩ := S0.out.cells
      simp only at k0 k1 k2
      go_wp2_with fail
      refine (containsI_any S0.out.q.sl t HCT.out).mono ?_
      rintro e w1 ⟨rfl, rfl⟩
      go_wp2_with fail
      go_ret
      exact ⟨rfl, H.out.out (Fr.refl No _)⟩
    · have hx : c = 0 ∧ X' = X.put n ⟨(X.at n).A, (X.at n).ps, addI (X.at n).qs t⟩ := by
        unfold aPeer at hr
        rw [if_neg (by rintro (h | h); exact ht0 h; exact h hn), if_neg ht, if_neg h8] at hr
        cases hr; exact ⟨rfl, rfl⟩
      obtain ⟨rfl, hX'⟩ := hx
      have HX' := Lib.hid hX'
      have HT := Lib.hid ht
      clear hr hX' h hn ht hqn
      generalize hmm : B.at n = m at S0 HLT HS HQN
      obtain ⟨sb, tb, mb, L, po, pn, pc, qo, qn, qc⟩ := m
      simp only at HQN
      have HMM := Lib.hid hmm
      have hqq : ¬ (8 : Int) ≤ (qn : Int) := by have := HQN.out; omega
      generalize hbb : B.bb = bb at HS ⊢
      clear hmm hbb h8
      go_enter Tryd.func8, Tryd.ntmps8
      go_wp2_with fail
      refine HS.out.mono ?_
      rintro e w1 ⟨rfl, rfl⟩
      obtain ⟨k0, k1, k2⟩ := S0.out.cells
      simp only at k0 k1 k2
      go_wp2_with fail
      refine (containsI_any S0.out.q.sl t HCT.out).mono ?_
      rintro e w1 ⟨rfl, rfl⟩
      go_wp2_with fail
      refine (bgWith_any S0.out.q HRQ.out (by simp only; omega) t HT.out).mono ?_
      rintro e w5 ⟨bo, bc, rfl, ob, f5, hbn⟩
      have S5 := Lib.hid (S0.out.no f5)
      have O5 := Lib.hid ob
      have F5 := Lib.hid f5
      have M5 := Lib.hid (H.out.mp.no f5)
      have HB5 := Lib.hid hbn
      clear ob f5 hbn k0 k1 k2
      have hb5 := S5.out.box
      simp only at hb5
      have z1 := frozen_of_row w5 sb 2 _ _ hb5
      obtain ⟨k0, k1, k2⟩ := S5.out.cells
      simp only at k0 k1 k2
      have HB5b := Lib.hid hb5
      clear hb5
      go_wp2_with fail
      go_ret
      have hb6 := set_row HB5b.out 2 (.slice bo (addI (X.at n).qs t).length bc)
      have f6 : Fr (Is sb) w5 (w5.setCell ⟨sb, 2, none⟩ (.slice bo (addI (X.at n).qs t).length bc)) := (Fr.refl (Is sb) w5).setCell (p := ⟨sb, 2, none⟩) (.inl rfl) _
      have S6 := S5.out.slices S5.out.p O5.out hb6 f6
      have M6 := M5.out.fr f6 (fun e => by
        obtain ⟨es, c, hm, -⟩ := M5.out.ex
        rw [show B.nb = sb from e, HB5b.out] at hm; cases hm)
      refine ⟨rfl, ?_⟩
      have hgd := HGD.out
      rw [HX'.out] at hgd ⊢
      refine H.out.did HI.out ?_ S6 (by rw [HMM.out]) (by rw [HMM.out]) (by rw [HMM.out]) ?_ M6 hgd
      · rw [HMM.out]
        exact (F5.out.of_no (S := fun k => SgM.all ⟨sb, tb, mb, L, po, pn, pc, qo, qn, qc⟩ k ∨ k = B.nb)).then f6 (fun k _ e => .inl (.inl e))
      · rw [HMM.out]
        rintro k (h | h | h | ⟨q, hq, h⟩ | ⟨a, ha, h⟩ | ⟨a, ha, h⟩)
        · exact .inl (.inl h)
        · exact .inl (.inr (.inl h))
        · exact .inl (.inr (.inr (.inl h)))
        · exact .inl (.inr (.inr (.inr (.inl ⟨q, hq, h⟩))))
        · exact .inl (.inr (.inr (.inr (.inr (.inl ⟨a, ha, h⟩)))))
        · exact .inr (by have := HB5.out a ha; omega)
  · have hx : c = 1 ∧ X' = X := by
      unfold aPeer at hr
      rw [if_pos (.inr hn)] at hr
      cases hr; exact ⟨rfl, rfl⟩
    obtain ⟨rfl, rfl⟩ := hx
    have HO := Lib.hid (fun bb => bgSegment0_out (w := w) (bb := bb) hn)
    clear hr h hn
    generalize hbb : B.bb = bb
    by_cases ht0 : t < 0
    · go_enter Tryd.func8, Tryd.ntmps8
      go_wp2_with fail
      refine (HO.out bb).mono ?_
      rintro e w1 ⟨rfl, rfl⟩
      go_wp2_with fail
      go_ret
      exact ⟨rfl, H.out.out (Fr.refl No _)⟩
    · go_enter Tryd.func8, Tryd.ntmps8
      go_wp2_with fail
      refine (HO.out bb).mono ?_
      rintro e w1 ⟨rfl, rfl⟩
      go_wp2_with fail
      go_ret
      exact ⟨rfl, H.out.out (Fr.refl No _)⟩
end Go.Proofs.YticebdoiahadoaaDoor
namespace Go.Proofs.YticebdoiahadoaaDoor
open Go.RowKit
set_option linter.unusedVariables false
set_option linter.unusedSimpArgs false
theorem BrAt.lenRun {w : World} {room life : Int} {B : BrM} {X : AB} (h : BrAt w room life B X) : (Builtin.len_ #[46] 3 #[.map (some B.nb)]).run Tryd.prog w = .ok (.int .i64 (X.bd.length : Int)) w := h.mp.len (P := Tryd.prog) Tryd.underlying46 3
theorem bind_yes {X : AB} {p t : Int} (hp : 0 ≤ p) (ht : okSeg t) (h1 : mget X.bd p ≠ some t) (h2 : ¬ (mget X.bd p = none ∧ 16 ≤ X.bd.length)) : aBind X p t = (0, ⟨mput (aUnbind X p).2.bd p t, (aUnbind X p).2.sg.set t.toNat (bindS ((aUnbind X p).2.at t) p)⟩) := by
  unfold aBind
  rw [if_neg (by rintro (h | h); omega; exact h ht), if_neg h1, if_neg h2]

set_option maxRecDepth 100000 in
set_option maxHeartbeats 8000000 in
theorem bgBind_any {w : World} {room life : Int} {B : BrM} {X : AB} (h : BrAt w room life B X) {p t : Int} (hp : okI p) {c : Int} {X' : AB} (hr : aBind X p t = (c, X')) :
    Calls Tryd.prog 7 #[.pointer (some ⟨B.bb, 0, none⟩), .int .i64 p, .int .i64 t] w fun e w' => e = .returned (.int .i64 c) ∧ BrOut w B room life X' w' := by
  have H := Lib.hid h
  have HGD := Lib.hid (show Good X' by have := h.good.bind (p := p) (t := t) hp.2; rw [hr] at this; exact this)
  have k8 := h.mcell
  have lk := h.look hp w rfl
  have LN := Lib.hid h.lenRun
  have HP := Lib.hid hp
  by_cases hn : okSeg t
  · have HS := Lib.hid (bgSegment0_in h hn)
    have HI := Lib.hid hn
    by_cases hp0 : p < 0
    · have hx : c = 1 ∧ X' = X := by
        unfold aBind at hr
        rw [if_pos (.inl hp0)] at hr
        cases hr; exact ⟨rfl, rfl⟩
      obtain ⟨rfl, rfl⟩ := hx
      clear hr h hn
      generalize hbb : B.bb = bb at HS k8 ⊢
      generalize hnb : B.nb = nb at k8 lk
      generalize (B.at t).sb = sb at HS
      clear hbb hnb LN
      go_enter Tryd.func7, Tryd.ntmps7
      go_wp2_with fail
      refine HS.out.mono ?_
      rintro e w1 ⟨rfl, rfl⟩
      go_wp2_with fail
      go_ret
      exact ⟨rfl, H.out.out (Fr.refl No _)⟩
    have hp0' : 0 ≤ p := by omega
    by_cases hgt : mget X.bd p = some t
    · have hx : c = 0 ∧ X' = X := by
        unfold aBind at hr
        rw [if_neg (by rintro (h | h); exact hp0 h; exact h hn), if_pos hgt] at hr
        cases hr; exact ⟨rfl, rfl⟩
      obtain ⟨rfl, rfl⟩ := hx
      rw [hgt] at lk
      simp only [Option.getD_some, Option.isSome_some] at lk
      clear hr h hn hgt
      generalize hbb : B.bb = bb at HS k8 ⊢
      generalize hnb : B.nb = nb at k8 lk
      generalize (B.at t).sb = sb at HS
      clear hbb hnb LN
      go_enter Tryd.func7, Tryd.ntmps7
      go_wp2_with fail
      refine HS.out.mono ?_
      rintro e w1 ⟨rfl, rfl⟩
      go_wp2_with fail
      go_ret
      exact ⟨rfl, H.out.out (Fr.refl No _)⟩
    by_cases hfull : mget X.bd p = none ∧ 16 ≤ X.bd.length
    · have hx : c = 5 ∧ X' = X := by
        unfold aBind at hr
        rw [if_neg (by rintro (h | h); exact hp0 h; exact h hn), if_neg hgt, if_pos hfull] at hr
        cases hr; exact ⟨rfl, rfl⟩
      obtain ⟨rfl, rfl⟩ := hx
      obtain ⟨hg, hl⟩ := hfull
      rw [hg] at lk
      simp only [Option.getD_none, Option.isSome_none] at lk
      have hl2 : (16 : Int) ≤ (X'.bd.length : Int) := by omega
      have ln := LN.out
      clear hr h hn hgt hg hl
      generalize hbb : B.bb = bb at HS k8 ⊢
      generalize hnb : B.nb = nb at k8 lk ln
      generalize (B.at t).sb = sb at HS
      clear hbb hnb LN
      go_enter Tryd.func7, Tryd.ntmps7
      go_wp2_with fail
      refine HS.out.mono ?_
      rintro e w1 ⟨rfl, rfl⟩
      go_wp2_with fail
      go_ret
      exact ⟨rfl, H.out.out (Fr.refl No _)⟩
    have hyes := bind_yes hp0' hn hgt hfull
    obtain ⟨⟨c1, Y⟩, hY⟩ : ∃ r, aUnbind X p = r := ⟨_, rfl⟩
    rw [hY] at hyes
    rw [hyes] at hr
    have hx : c = 0 ∧ X' = ⟨mput Y.bd p t, Y.sg.set t.toNat (bindS (Y.at t) p)⟩ := by cases hr; exact ⟨rfl, rfl⟩
    obtain ⟨rfl, hX'⟩ := hx
    have HX' := Lib.hid hX'
    have HY := Lib.hid hY
    have hgY := h.good.unbind p
    have hnY := unbind_none h.good p
    rw [hY] at hgY hnY
    have HGY := Lib.hid hgY
    have HNY := Lib.hid hnY
    have hcase : (mget X.bd p = none ∧ X.bd.length < 16) ∨ ∃ i, mget X.bd p = some i ∧ i ≠ t := by
      cases hg : mget X.bd p with
      | none => exact .inl ⟨rfl, by apply Classical.byContradiction; intro hh; exact hfull ⟨hg, by omega⟩⟩
      | some i => exact .inr ⟨i, rfl, fun e => hgt (by rw [hg, e])⟩
    clear hr hX' hY hgY hnY hyes hfull hgt h hn
    generalize hbb : B.bb = bb at HS k8 ⊢
    have HBB := Lib.hid hbb
    clear hbb
    generalize hsb : (B.at t).sb = sb at HS
    have HSB := Lib.hid hsb
    clear hsb
    generalize hnb : B.nb = nb at k8 lk LN
    have HNB := Lib.hid hnb
    clear hnb
    rcases hcase with ⟨hg, hl⟩ | ⟨i, hg, hit⟩
    · rw [hg] at lk
      simp only [Option.getD_none, Option.isSome_none] at lk
      have hl2 : ¬ (16 : Int) ≤ (X.bd.length : Int) := by omega
      have ln := LN.out
      clear hg hl LN
      go_enter Tryd.func7, Tryd.ntmps7
      go_wp2_with fail
      refine HS.out.mono ?_
      rintro e w1 ⟨rfl, rfl⟩
      go_wp2_with fail
      rw [← HBB.out]
      refine (bgUnbind_any H.out HP.out HY.out).mono ?_
      rintro e w2 ⟨rfl, B1, hB1, hsub, f1⟩
      rw [HBB.out]
      have H1 := Lib.hid hB1
      have SUB := Lib.hid hsub
      have F1 := Lib.hid f1
      clear hB1 hsub f1 k8 lk
      have hbb1 : B1.bb = bb := by rw [SUB.out.bb, HBB.out]
      have hnb1 : B1.nb = nb := by rw [SUB.out.nb, HNB.out]
      have k8 := H1.out.mcell
      rw [hbb1, hnb1] at k8
      obtain ⟨w4, hput, m4, f4, s4⟩ := Mp.put (P := Tryd.prog) H1.out.mp keI Tryd.underlying46 (k := p) HP.out t
      rw [hnb1] at hput m4 f4
      simp only [evI] at hput
      have hS := H1.out.seg t HI.out
      have S4 := Lib.hid (hS.fr f4 (by
        intro k hk e
        obtain ⟨es, c, hm, -⟩ := H1.out.mp.ex
        exact hS.nbne hm (H1.out.nbd t HI.out) (by rw [hnb1, ← show k = nb from e]; exact hk)))
      have M4 := Lib.hid m4
      have F4 := Lib.hid f4
      have SZ := Lib.hid s4
      have HB1 := Lib.hid hnb1
      have hsb1 : (B1.at t).sb = sb := by rw [SUB.out.sb t HI.out, HSB.out]
      have hpl := HGY.out.pl HI.out
      clear hnb1 m4 f4 s4 hS hbb1
      generalize hmm : B1.at t = m at S4 hsb1
      obtain ⟨sb', tb, mb, L, po, pn, pc, qo, qn, qc⟩ := m
      simp only at hsb1
      subst hsb1
      have HMM := Lib.hid hmm
      clear hmm
      obtain ⟨k0, k1, k2⟩ := S4.out.cells
      simp only at k0 k1 k2
      go_wp2_with fail
      have hpn : pn ≤ 100000 := by have h1 := S4.out.p.1; simp only at h1; omega
      refine (bgWith_any S4.out.p (HGY.out.rp t HI.out) hpn p (fun hm => by
        have := (HGY.out.mem t HI.out p).1 hm
        rw [HNY.out] at this; cases this)).mono ?_
      rintro e w5 ⟨bo, bc, rfl, ob, f5, hbn⟩
      have S5 := Lib.hid (S4.out.no f5)
      have O5 := Lib.hid ob
      have F5 := Lib.hid (F4.out.then_no f5)
      have M5 := Lib.hid (M4.out.no f5)
      have HB5 := Lib.hid hbn
      clear ob f5 hbn k0 k1 k2
      have hb5 := S5.out.box
      simp only at hb5
      have z1 := frozen_of_row w5 sb' 1 _ _ hb5
      obtain ⟨k0, k1, k2⟩ := S5.out.cells
      simp only at k0 k1 k2
      have HB5b := Lib.hid hb5
      clear hb5
      go_wp2_with fail
      go_ret
      have hb6 := set_row HB5b.out 1 (.slice bo (addI (Y.at t).ps p).length bc)
      have f6 : Fr (Is sb') w5 (w5.setCell ⟨sb', 1, none⟩ (.slice bo (addI (Y.at t).ps p).length bc)) := (Fr.refl (Is sb') w5).setCell (p := ⟨sb', 1, none⟩) (.inl rfl) _
      have S6 := S5.out.slices O5.out S5.out.q hb6 f6
      have M6 := M5.out.fr f6 (fun e => by
        obtain ⟨es, c, hm, -⟩ := M5.out.ex
        rw [show nb = sb' from e, HB5b.out] at hm; cases hm)
      refine ⟨rfl, ?_⟩
      have hgd := HGD.out
      rw [HX'.out] at hgd ⊢
      have hs4 := SZ.out
      refine BrOut.trans SUB.out F1.out ?_
      refine H1.out.did HI.out ?_ S6 (by rw [HMM.out]) (by rw [HMM.out]) (by rw [HMM.out]) ?_ (by rw [HB1.out]; exact M6) hgd
      · rw [HMM.out, HB1.out]
        exact (F5.out.mono (S' := fun k => SgM.all ⟨sb', tb, mb, L, po, pn, pc, qo, qn, qc⟩ k ∨ k = nb) (fun k _ e => .inr e)).then f6 (fun k _ e => .inl (.inl e))
      · rw [HMM.out]
        rintro k (h | h | h | ⟨q, hq, h⟩ | ⟨a, ha, h⟩ | ⟨a, ha, h⟩)
        · exact .inl (.inl h)
        · exact .inl (.inr (.inl h))
        · exact .inl (.inr (.inr (.inl h)))
        · exact .inl (.inr (.inr (.inr (.inl ⟨q, hq, h⟩))))
        · exact .inr (by have := HB5.out a ha; omega)
        · exact .inl (.inr (.inr (.inr (.inr (.inr ⟨a, ha, h⟩)))))
    · rw [hg] at lk
      simp only [Option.getD_some, Option.isSome_some] at lk
      have hit2 : (i == t) = false := by simpa using hit
      clear hg hit LN
      go_enter Tryd.func7, Tryd.ntmps7
      go_wp2_with fail
      refine HS.out.mono ?_
      rintro e w1 ⟨rfl, rfl⟩
      go_wp2_with fail
      rw [← HBB.out]
      refine (bgUnbind_any H.out HP.out HY.out).mono ?_
      rintro e w2 ⟨rfl, B1, hB1, hsub, f1⟩
      rw [HBB.out]
      have H1 := Lib.hid hB1
      have SUB := Lib.hid hsub
      have F1 := Lib.hid f1
      clear hB1 hsub f1 k8 lk
      have hbb1 : B1.bb = bb := by rw [SUB.out.bb, HBB.out]
      have hnb1 : B1.nb = nb := by rw [SUB.out.nb, HNB.out]
      have k8 := H1.out.mcell
      rw [hbb1, hnb1] at k8
      obtain ⟨w4, hput, m4, f4, s4⟩ := Mp.put (P := Tryd.prog) H1.out.mp keI Tryd.underlying46 (k := p) HP.out t
      rw [hnb1] at hput m4 f4
      simp only [evI] at hput
      have hS := H1.out.seg t HI.out
      have S4 := Lib.hid (hS.fr f4 (by
        intro k hk e
        obtain ⟨es, c, hm, -⟩ := H1.out.mp.ex
        exact hS.nbne hm (H1.out.nbd t HI.out) (by rw [hnb1, ← show k = nb from e]; exact hk)))
      have M4 := Lib.hid m4
      have F4 := Lib.hid f4
      have SZ := Lib.hid s4
      have HB1 := Lib.hid hnb1
      have hsb1 : (B1.at t).sb = sb := by rw [SUB.out.sb t HI.out, HSB.out]
      have hpl := HGY.out.pl HI.out
      clear hnb1 m4 f4 s4 hS hbb1
      generalize hmm : B1.at t = m at S4 hsb1
      obtain ⟨sb', tb, mb, L, po, pn, pc, qo, qn, qc⟩ := m
      simp only at hsb1
      subst hsb1
      have HMM := Lib.hid hmm
      clear hmm
      obtain ⟨k0, k1, k2⟩ := S4.out.cells
      simp only at k0 k1 k2
      go_wp2_with fail
      have hpn : pn ≤ 100000 := by have h1 := S4.out.p.1; simp only at h1; omega
      refine (bgWith_any S4.out.p (HGY.out.rp t HI.out) hpn p (fun hm => by
        have := (HGY.out.mem t HI.out p).1 hm
        rw [HNY.out] at this; cases this)).mono ?_
      rintro e w5 ⟨bo, bc, rfl, ob, f5, hbn⟩
      have S5 := Lib.hid (S4.out.no f5)
      have O5 := Lib.hid ob
      have F5 := Lib.hid (F4.out.then_no f5)
      have M5 := Lib.hid (M4.out.no f5)
      have HB5 := Lib.hid hbn
      clear ob f5 hbn k0 k1 k2
      have hb5 := S5.out.box
      simp only at hb5
      have z1 := frozen_of_row w5 sb' 1 _ _ hb5
      obtain ⟨k0, k1, k2⟩ := S5.out.cells
      simp only at k0 k1 k2
      have HB5b := Lib.hid hb5
      clear hb5
      go_wp2_with fail
      go_ret
      have hb6 := set_row HB5b.out 1 (.slice bo (addI (Y.at t).ps p).length bc)
      have f6 : Fr (Is sb') w5 (w5.setCell ⟨sb', 1, none⟩ (.slice bo (addI (Y.at t).ps p).length bc)) := (Fr.refl (Is sb') w5).setCell (p := ⟨sb', 1, none⟩) (.inl rfl) _
      have S6 := S5.out.slices O5.out S5.out.q hb6 f6
      have M6 := M5.out.fr f6 (fun e => by
        obtain ⟨es, c, hm, -⟩ := M5.out.ex
        rw [show nb = sb' from e, HB5b.out] at hm; cases hm)
      refine ⟨rfl, ?_⟩
      have hgd := HGD.out
      rw [HX'.out] at hgd ⊢
      have hs4 := SZ.out
      refine BrOut.trans SUB.out F1.out ?_
      refine H1.out.did HI.out ?_ S6 (by rw [HMM.out]) (by rw [HMM.out]) (by rw [HMM.out]) ?_ (by rw [HB1.out]; exact M6) hgd
      · rw [HMM.out, HB1.out]
        exact (F5.out.mono (S' := fun k => SgM.all ⟨sb', tb, mb, L, po, pn, pc, qo, qn, qc⟩ k ∨ k = nb) (fun k _ e => .inr e)).then f6 (fun k _ e => .inl (.inl e))
      · rw [HMM.out]
        rintro k (h | h | h | ⟨q, hq, h⟩ | ⟨a, ha, h⟩ | ⟨a, ha, h⟩)
        · exact .inl (.inl h)
        · exact .inl (.inr (.inl h))
        · exact .inl (.inr (.inr (.inl h)))
        · exact .inl (.inr (.inr (.inr (.inl ⟨q, hq, h⟩))))
        · exact .inr (by have := HB5.out a ha; omega)
        · exact .inl (.inr (.inr (.inr (.inr (.inr ⟨a, ha, h⟩)))))
  · have hx : c = 1 ∧ X' = X := by
      unfold aBind at hr
      rw [if_pos (.inr hn)] at hr
      cases hr; exact ⟨rfl, rfl⟩
    obtain ⟨rfl, rfl⟩ := hx
    have HO := Lib.hid (fun bb => bgSegment0_out (w := w) (bb := bb) hn)
    clear hr h hn LN
    generalize hbb : B.bb = bb at k8 ⊢
    generalize hnb : B.nb = nb at k8 lk
    generalize (mget X'.bd p).getD 0 = i0 at lk
    generalize (mget X'.bd p).isSome = b0 at lk
    clear hbb hnb
    by_cases hp0 : p < 0
    · go_enter Tryd.func7, Tryd.ntmps7
      go_wp2_with fail
      refine (HO.out bb).mono ?_
      rintro e w1 ⟨rfl, rfl⟩
      go_wp2_with fail
      go_ret
      exact ⟨rfl, H.out.out (Fr.refl No _)⟩
    · go_enter Tryd.func7, Tryd.ntmps7
      go_wp2_with fail
      refine (HO.out bb).mono ?_
      rintro e w1 ⟨rfl, rfl⟩
      go_wp2_with fail
      go_ret
      exact ⟨rfl, H.out.out (Fr.refl No _)⟩
end Go.Proofs.YticebdoiahadoaaDoor
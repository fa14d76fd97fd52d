/- bridge: Unbind, Bind, Peer, Unpeer. -/
import Derived.Test.YticebdoiahadoaaBg5
namespace Go.Proofs.Yticebdoiahadoaa
open Go.RowKit
set_option linter.unusedVariables false
set_option linter.unusedSimpArgs false

/-- A segment's ports and peers are laid anew. -/
theorem SgAt.slices {w w' : World} {room life : Int} {m : SgM} {s : AS} (h : SgAt w room life m s) {po : Option Addr} {pn pc : Nat} {ps : List Int} {qo : Option Addr} {qn qc : Nat} {qs : List Int} (hp : OI w po pn pc ps) (hq : OI w qo qn qc qs)
    (hb : w'.heap[m.sb]? = some (.cells #[.pointer (some ⟨m.tb, 0, none⟩), .slice po pn pc, .slice qo qn qc] 83 (0, 0))) (hf : Fr (Is m.sb) w w') :
    SgAt w' room life ⟨m.sb, m.tb, m.mb, m.L, po, pn, pc, qo, qn, qc⟩ ⟨s.A, ps, qs⟩ := by
  obtain ⟨n1, n2, n3, n4, n5⟩ := h.sbne
  have hne : ∀ {ao : Option Addr} {n c : Nat} {zs : List Int}, OI w ao n c zs → Out (Is m.sb) ao := by
    intro ao n c zs ho a ha e
    obtain ⟨-, cur, h2, -⟩ := ho.2.row a ha
    rw [show a.block = m.sb from e, h.box] at h2
    have := types_ne.2.2.1
    simp at h2
  exact ⟨hb, h.fd.fr hf (fun e => n1 e.symm) (fun e => n2 e.symm) (fun p hp e => n3 p hp e), h.ab, hp.fr hf (hne hp), hq.fr hf (hne hq)⟩
/-- A segment's base turns. -/
theorem SgAt.turn {w w' : World} {room life : Int} {m : SgM} {s : AS} (h : SgAt w room life m s) {L' : FL} {A' : AL} (h1 : Fd w' m.tb m.mb room life L') (h2 : Ab L' A') (hf : Fr (FS m.mb m.L) w w') :
    SgAt w' room life ⟨m.sb, m.tb, m.mb, L', m.po, m.pn, m.pc, m.qo, m.qn, m.qc⟩ ⟨A', s.ps, s.qs⟩ := by
  obtain ⟨n1, n2, n3, n4, n5⟩ := h.sbne
  have hne : ∀ {ao : Option Addr} {n c : Nat} {zs : List Int}, OI w ao n c zs → Out (FS m.mb m.L) ao := by
    intro ao n c zs ho a ha e
    obtain ⟨-, cur, g2, -⟩ := ho.2.row a ha
    rcases e with e | ⟨p, hp, e⟩
    · obtain ⟨es, c, hm, -⟩ := h.fd.mp.ex
      rw [e, hm] at g2; cases g2
    · have := h.fd.ent p hp
      unfold EnAt at this
      have ht := types_ne.2.2.2.2.2.2.2.2
      rw [e, this] at g2; simp at g2
  refine ⟨hf.heap h.box ?_, h1, h2, h.p.fr hf (hne h.p), h.q.fr hf (hne h.q)⟩
  rintro (e | ⟨p, hp, e⟩)
  · exact n2 e
  · exact n3 p hp e.symm
theorem fs_all {m : SgM} {k : Nat} (h : FS m.mb m.L k) : m.all k := by
  rcases h with h | ⟨p, hp, h⟩
  · exact .inr (.inr (.inl h))
  · exact .inr (.inr (.inr (.inl ⟨p, hp, h⟩)))
/-- What an operation of a bridge leaves. -/
def BrOut (w : World) (B : BrM) (room life : Int) (X' : AB) (w' : World) : Prop := ∃ B', BrAt w' room life B' X' ∧ BrM.sub w B B' ∧ Fr B.all w w'
theorem BrAt.out {w w' : World} {room life : Int} {B : BrM} {X : AB} (h : BrAt w room life B X) (hf : Fr No w w') : BrOut w B room life X w' := ⟨B, h.no hf, BrM.sub_refl _ _, hf.of_no⟩
theorem BrOut.trans {w w1 w2 : World} {B B1 : BrM} {room life : Int} {X' : AB} (h1 : BrM.sub w B B1) (f1 : Fr B.all w w1) (h2 : BrOut w1 B1 room life X' w2) : BrOut w B room life X' w2 := by
  obtain ⟨B2, b2, s2, f2⟩ := h2
  refine ⟨B2, b2, h1.trans s2 f1.size, f1.then f2 (fun i hi h => ?_)⟩
  rcases h1.all i h with h3 | h3
  · exact h3
  · omega
/-- One segment turned, and the map. -/
theorem BrAt.did {w w' : World} {room life : Int} {B : BrM} {X : AB} (h : BrAt w room life B X) {n : Int} (hn : okSeg n) (hf : Fr (fun k => (B.at n).all k ∨ k = B.nb) w w') {m : SgM} {s : AS} (hs : SgAt w' room life m s)
    (hsb : m.sb = (B.at n).sb) (htb : m.tb = (B.at n).tb) (hmb : m.mb = (B.at n).mb) (hall : ∀ k, m.all k → (B.at n).all k ∨ w.heap.size ≤ k) {bd : List (Int × Int)} (hm : Mp okI evI evI w' B.nb bd) (hg : Good ⟨bd, X.sg.set n.toNat s⟩) :
    BrOut w B room life ⟨bd, X.sg.set n.toNat s⟩ w' :=
  ⟨B.set n m, h.step hn hf (fun k _ hk => hk) hs hsb hmb hall hm hg, BrM.sub_set h.mlen hn hsb htb hall, hf.mono (fun k _ hk => by
    rcases hk with hk | hk
    · exact .inr (.inr ⟨n, hn, hk⟩)
    · exact .inr (.inl hk))⟩

set_option maxRecDepth 100000 in
set_option maxHeartbeats 4000000 in
theorem bgUnbind_any {w : World} {room life : Int} {B : BrM} {X : AB} (h : BrAt w room life B X) {p : Int} (hp : okI p) {c : Int} {X' : AB} (hr : aUnbind X p = (c, X')) :
    Calls Try.prog 23 #[.pointer (some ⟨B.bb, 0, none⟩), .int .i64 p] w fun e w' => e = .returned (.int .i64 c) ∧ BrOut w B room life X' w' := by
  have H := Lib.hid h
  have k8 := h.mcell
  have lk := h.look hp w rfl
  cases hg : mget X.bd p with
  | none =>
    have hx : c = 6 ∧ X' = X := by unfold aUnbind at hr; rw [hg] at hr; cases hr; exact ⟨rfl, rfl⟩
    obtain ⟨rfl, rfl⟩ := hx
    rw [hg] at lk
    simp only [Option.getD_none, Option.isSome_none] at lk
    clear h hr hg
    go_enter Try.func23, Try.ntmps23
    go_wp2_with fail
    go_ret
    exact ⟨rfl, H.out.out (Fr.refl No w)⟩
  | some i =>
    have hi := (h.good.bk p i hg).2
    have hx : c = 0 ∧ X' = ⟨mdel X.bd p, X.sg.set i.toNat (unbindS (X.at i) p)⟩ := by unfold aUnbind at hr; rw [hg] at hr; cases hr; exact ⟨rfl, rfl⟩
    obtain ⟨rfl, hX'⟩ := hx
    have HGD := Lib.hid (show Good X' by have := h.good.unbind p; rw [hr] at this; exact this)
    have HX' := Lib.hid hX'
    rw [hg] at lk
    simp only [Option.getD_some, Option.isSome_some] at lk
    obtain ⟨w4, hdel, m4, f4, s4⟩ := h.mp.del (P := Try.prog) keI Try.underlying76 (k := p) hp (ty := 0)
    simp only [evI] at hdel
    have hS := h.seg i hi
    have hnb : ∀ k, (B.at i).all k → ¬ Is B.nb k := by
      intro k hk e
      obtain ⟨es, c, hm, -⟩ := h.mp.ex
      exact hS.nbne hm (h.nbd i hi) (by rw [← show k = B.nb from e]; exact hk)
    have S4 := Lib.hid (hS.fr f4 hnb)
    have c4 : w4.cell? ⟨B.bb, i.toNat, none⟩ = some (.pointer (some ⟨(B.at i).sb, 0, none⟩)) := f4.cell (h.cell hi) (fun e => by
      obtain ⟨es, c, hm, -⟩ := h.mp.ex
      have := h.box; rw [show B.bb = B.nb from e, hm] at this; cases this)
    have hpl := h.good.pl hi
    have HI := Lib.hid hi
    have M4 := Lib.hid m4
    have F4 := Lib.hid f4
    have SZ := Lib.hid s4
    have hlt : ∀ k, (B.at i).all k → k < w.heap.size := fun k hk => hS.lt hk
    have HLT := Lib.hid hlt
    obtain ⟨hi0, hi1⟩ := hi
    clear hr hX' h hg m4 f4 s4 hS hnb hlt
    generalize hmm : B.at i = m at S4 c4 HLT
    obtain ⟨sb, tb, mb, L, po, pn, pc, qo, qn, qc⟩ := m
    have HMM := Lib.hid hmm
    clear hmm
    simp only at c4
    generalize hbb : B.bb = bb at k8 c4 ⊢
    generalize hnb : B.nb = nb at k8 lk hdel M4 F4
    have HBB := Lib.hid hbb
    have HNB := Lib.hid hnb
    clear hbb hnb
    go_enter Try.func23, Try.ntmps23
    obtain ⟨k0, k1, k2⟩ := S4.out.cells
    simp only at k0 k1 k2
    go_wp2_with fail
    have hpn : pn ≤ 100000 := by have h1 := S4.out.p.1; simp only at h1; omega
    refine (bgWithout_any S4.out.p hpn p).mono ?_
    rintro e w5 ⟨bo, bc, rfl, ob, f5, hbn⟩
    have S5 := Lib.hid (S4.out.no f5)
    have O5 := Lib.hid ob
    have F5 := Lib.hid (F4.out.then_no f5)
    have M5 := Lib.hid (M4.out.no f5)
    have G5 := Lib.hid f5
    have HB5 := Lib.hid hbn
    clear ob f5 hbn k0 k1 k2
    have hb5 := S5.out.box
    simp only at hb5
    have z1 := frozen_of_row w5 sb 1 _ _ hb5
    obtain ⟨k0, k1, k2⟩ := S5.out.cells
    simp only at k0 k1 k2
    have HB5b := Lib.hid hb5
    clear hb5
    go_wp2_with fail
    have hb6 := set_row HB5b.out 1 (.slice bo (delI (X.at i).ps p).length bc)
    have f6 : Fr (Is sb) w5 (w5.setCell ⟨sb, 1, none⟩ (.slice bo (delI (X.at i).ps p).length bc)) := (Fr.refl (Is sb) w5).setCell (p := ⟨sb, 1, none⟩) (.inl rfl) _
    have S6 := Lib.hid (S5.out.slices O5.out S5.out.q hb6 f6)
    have M6 := Lib.hid (M5.out.fr f6 (fun e => by
      obtain ⟨es, c, hm, -⟩ := M5.out.ex
      rw [show nb = sb from e, HB5b.out] at hm; cases hm))
    have G6 := Lib.hid f6
    have hs6 := f6.size
    clear hb6 f6 k0 k1 k2 z1 M5
    generalize w5.setCell ⟨sb, 1, none⟩ (.slice bo (delI (X.at i).ps p).length bc) = w6 at S6 M6 G6 hs6 ⊢
    refine (fbForget_at S6.out.fd S6.out.ab ⟨false, p⟩ rfl).mono ?_
    rintro e w7 ⟨rfl, L', h7, a7, n7, f7⟩
    have S7 := Lib.hid (S6.out.turn h7 a7 (f7.mono (fun _ _ h => .inl h)))
    have M7 := Lib.hid (M6.out.fr f7 (fun e => by
      have := H.out.nbd i HI.out
      rw [HMM.out, HNB.out] at this
      exact this (show nb = mb from e).symm))
    have G7 := Lib.hid f7
    have N7 := Lib.hid n7
    clear h7 a7 n7 f7 M6
    go_wp2_with fail
    go_ret
    refine ⟨rfl, ?_⟩
    have hgd := HGD.out
    rw [HX'.out] at hgd ⊢
    have hs4 := SZ.out
    have hs5 := G5.out.size
    refine H.out.did HI.out ?_ S7.out (by rw [HMM.out]) (by rw [HMM.out]) (by rw [HMM.out]) ?_ (by rw [HNB.out]; exact M7.out) hgd
    · rw [HMM.out, HNB.out]
      exact ((F5.out.mono (S' := fun k => SgM.all ⟨sb, tb, mb, L, po, pn, pc, qo, qn, qc⟩ k ∨ k = nb) (fun k _ e => .inr e)).then G6.out (fun k _ e => .inl (.inl e))).then G7.out (fun k _ e => .inl (.inr (.inr (.inl e))))
    · rw [HMM.out]
      rintro k (h | h | h | ⟨q, hq, h⟩ | ⟨a, ha, h⟩ | ⟨a, ha, h⟩)
      · exact .inl (.inl h)
      · exact .inl (.inr (.inl h))
      · exact .inl (.inr (.inr (.inl h)))
      · rcases N7.out q hq with ⟨q', hq', e⟩ | e
        · exact .inl (.inr (.inr (.inr (.inl ⟨q', hq', by rw [h, e]⟩))))
        · exact .inr (by omega)
      · exact .inr (by have := HB5.out a ha; omega)
      · exact .inl (.inr (.inr (.inr (.inr (.inr ⟨a, ha, h⟩)))))
end Go.Proofs.Yticebdoiahadoaa

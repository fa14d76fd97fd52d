/- fdb: add in all cases; Learn. -/
import Derived.Test.YticebdoiahadoaaDoorFd20
import Derived.Test.YticebdoiahadoaaDoorFdA
namespace Go.Proofs.YticebdoiahadoaaDoor
open Go.RowKit
set_option linter.unusedVariables false
set_option linter.unusedSimpArgs false
theorem fbAdd_any {w : World} {tb mb : Nat} {room life : Int} {L : FL} (h : Fd w tb mb room life L) {e : En} (hok : e.ok) (hg : mget L e.mac = none) :
    Calls Tryd.prog 36 #[.pointer (some ⟨tb, 0, none⟩), evE e] w (AddPF w tb mb room life L e) := by
  by_cases hl : (L.length : Int) < room
  · exact fbAdd_room h hok hg hl
  · exact fbAdd_full h hok hg (by omega) h.lr
theorem mput_dis {L : FL} (nd : (L.map (·.1)).Nodup) (dis : (L.map (·.2.1)).Nodup) {k : Mac} {b : Nat} {e : En} (hb : ∀ p ∈ L, p.1 ≠ k → p.2.1 ≠ b) : ((mput L k (b, e)).map (·.2.1)).Nodup := by
  have h1 := (mput_perm nd k (b, e)).map (fun p : Mac × Nat × En => p.2.1)
  rw [h1.nodup_iff, List.map_cons, List.nodup_cons]
  refine ⟨?_, (List.filter_sublist.map _).nodup dis⟩
  intro hm
  obtain ⟨p, hp, hpb⟩ := List.mem_map.1 hm
  obtain ⟨hp1, hp2⟩ := mem_mdel.1 hp
  exact hb p hp1 hp2 hpb
/-- An entry is laid at its key. -/
theorem Fd.putG {w w' : World} {tb mb : Nat} {room life : Int} {L : FL} (h : Fd w tb mb room life L) {S : Nat → Prop} {e : En} {eb : Nat} (hr : mget L e.mac = none → (L.length : Int) < room) (hok : e.ok) (he : EnAt w' eb e)
    (hnew : ∀ p ∈ L, p.1 ≠ e.mac → p.2.1 ≠ eb) (hm : Mp okM evM evP w' mb (mput (L.map pr) e.mac eb)) (hf : Fr S w w') (hS1 : ¬ S tb) (hS2 : ∀ p ∈ L, p.1 ≠ e.mac → ¬ S p.2.1) : Fd w' tb mb room life (mput L e.mac (eb, e)) := by
  have hrm := h.rom
  have hl := mput_length L e.mac (eb, e)
  have hlr : ((mput L e.mac (eb, e)).length : Int) ≤ room := by
    have h1 := h.lr
    cases hg : mget L e.mac with
    | none => rw [hg] at hl; have := hr hg; simp at hl; omega
    | some u => rw [hg] at hl; simp at hl; omega
  refine ⟨hf.heap h.box hS1, by rw [mput_pr]; exact hm, ?_, ?_, ?_, mput_dis h.nd h.dis hnew, by omega, h.lif, h.rom, hlr⟩
  · intro p hp
    rcases mem_mput.1 hp with rfl | ⟨hp, hne⟩
    · exact he
    · exact hf.heap (h.ent p hp) (hS2 p hp hne)
  · intro p hp
    rcases mem_mput.1 hp with rfl | ⟨hp, hne⟩
    · rfl
    · exact h.key p hp
  · intro p hp
    rcases mem_mput.1 hp with rfl | ⟨hp, hne⟩
    · exact hok
    · exact h.ok p hp
theorem mput_same {κ β : Type} [DecidableEq κ] {l : List (κ × β)} (nd : (l.map (·.1)).Nodup) {k : κ} {v : β} (hg : mget l k = some v) : mput l k v = l := by
  have e1 : mput l k v = l.map (fun p => if p.1 = k then (k, v) else p) := by unfold mput; rw [hg]; rfl
  rw [e1]
  conv => rhs; rw [← List.map_id l]
  apply List.map_congr_left
  intro p hp
  by_cases hpk : p.1 = k
  · rw [if_pos hpk]
    have h1 := mget_of_mem nd (k := k) (v := p.2) (by rw [← hpk]; exact hp)
    rw [h1] at hg
    rw [← hpk, ← Option.some.inj hg]; rfl
  · rw [if_neg hpk]; rfl
/-- An entry turns in its place. -/
theorem Fd.upd {w w' : World} {tb mb : Nat} {room life : Int} {L : FL} (h : Fd w tb mb room life L) {e e0 : En} {b : Nat} (hg : mget L e.mac = some (b, e0)) (hok : e.ok) (he : EnAt w' b e) (hf : Fr (Is b) w w') : Fd w' tb mb room life (mput L e.mac (b, e)) := by
  have hp := mget_some hg
  have hbm : b ≠ mb := h.bne _ hp
  have hbt : b ≠ tb := h.btn _ hp
  refine h.putG (S := Is b) (fun h0 => by rw [hg] at h0; cases h0) hok he ?_ ?_ hf (fun e => hbt e.symm) ?_
  · intro q hq hne hqb
    obtain ⟨i, hi⟩ := List.mem_iff_getElem?.1 hq
    obtain ⟨j, hj⟩ := List.mem_iff_getElem?.1 hp
    have hij : i = j := by
      have hi' : (L.map (·.2.1))[i]? = some q.2.1 := by rw [List.getElem?_map, hi]; rfl
      have hj' : (L.map (·.2.1))[j]? = some q.2.1 := by rw [List.getElem?_map, hj, hqb]; rfl
      exact (List.getElem?_inj (List.getElem?_eq_some_iff.1 hi').1 h.dis).1 (hi'.trans hj'.symm)
    subst hij
    rw [hi] at hj
    cases hj
    exact hne rfl
  · have e1 : mput (L.map pr) e.mac b = L.map pr := by
      refine mput_same h.mp.nd ?_
      unfold mget
      unfold mget at hg
      rw [List.find?_map, Option.map_map]
      cases hf : L.find? (fun p => decide (p.1 = e.mac)) with
      | none => rw [hf] at hg; cases hg
      | some q =>
        rw [hf] at hg
        simp only [Option.map_some, Option.some.injEq] at hg
        have h2 : (fun p : Mac × Nat => decide (p.1 = e.mac)) ∘ pr = fun p : Mac × Nat × En => decide (p.1 = e.mac) := rfl
        rw [h2, hf]
        simp only [Option.map_some, Function.comp, pr, hg]
    rw [e1]
    exact h.mp.fr hf (fun e => hbm e.symm)
  · intro q hq hne hqb
    obtain ⟨i, hi⟩ := List.mem_iff_getElem?.1 hq
    obtain ⟨j, hj⟩ := List.mem_iff_getElem?.1 hp
    have hij : i = j := by
      have hqb' : q.2.1 = b := hqb
      have hi' : (L.map (·.2.1))[i]? = some q.2.1 := by rw [List.getElem?_map, hi]; rfl
      have hj' : (L.map (·.2.1))[j]? = some q.2.1 := by rw [List.getElem?_map, hj, hqb']; rfl
      exact (List.getElem?_inj (List.getElem?_eq_some_iff.1 hi').1 h.dis).1 (hi'.trans hj'.symm)
    subst hij
    rw [hi] at hj
    cases hj
    exact hne rfl
theorem Nb.le {w w' : World} {L L' : FL} (h : Nb w' L L') (hs : w.heap.size ≤ w'.heap.size) : Nb w L L' := fun p hp => (h p hp).imp id (fun h => Nat.le_trans hs h)

def LearnPF (w : World) (tb mb : Nat) (room life : Int) (L : FL) (A : AL) (m : Mac) (p : Pl) (now : Int) (e : Ending) (w' : World) : Prop :=
  ∃ L', e = .returned (.tuple #[.bool (alearn room A m p now).1, .int .i64 (alearn room A m p now).2.1]) ∧ Fd w' tb mb room life L' ∧ Ab L' (alearn room A m p now).2.2 ∧ Nb w L L' ∧ Fr (FS mb L) w w'
theorem LearnPF.mk' {w : World} {tb mb : Nat} {room life : Int} {L : FL} {A : AL} {m : Mac} {p : Pl} {now : Int} {w' : World} {r : Bool × Int × AL} (hr : alearn room A m p now = r) {L' : FL} (h1 : Fd w' tb mb room life L') (h2 : Ab L' r.2.2) (h3 : Nb w L L') (h4 : Fr (FS mb L) w w') :
    LearnPF w tb mb room life L A m p now (.returned (.tuple #[.bool r.1, .int .i64 r.2.1])) w' := by
  subst hr; exact ⟨L', rfl, h1, h2, h3, h4⟩
theorem set_row {w : World} {b : Nat} {cs : Array Value} {e : TypeId} (h : w.heap[b]? = some (.cells cs e (0, 0))) (j : Nat) (u : Value) : (w.setCell ⟨b, j, none⟩ u).heap[b]? = some (.cells (cs.setIfInBounds j u) e (0, 0)) := by
  simp only [World.setCell, Array.getElem?_modify, if_true, h, Option.map_some, Option.isSome_none, Bool.false_eq_true, if_false]

set_option maxRecDepth 100000 in
set_option maxHeartbeats 4000000 in
theorem fbLearn_any {w : World} {tb mb : Nat} {room life : Int} {L : FL} (h : Fd w tb mb room life L) {A : AL} (ha : Ab L A) (m : Mac) (p : Pl) {now : Int} (hn0 : 0 ≤ now) (hn1 : now < 18446744073709551616) (hp : -9223372036854775808 ≤ p.n ∧ p.n ≤ 9223372036854775807) :
    Calls Tryd.prog 27 #[.pointer (some ⟨tb, 0, none⟩), evM m, evPL p, .int .u64 now] w (LearnPF w tb mb room life L A m p now) := by
  have H := Lib.hid h
  have HA := Lib.hid ha
  have hlm := h.mp.lt
  have hlt := lt_of_heap h.box
  obtain ⟨pt, pn⟩ := p
  have HP := Lib.hid hp
  clear h ha hp
  unfold evM evPL
  simp only
  go_enter Tryd.func27, Tryd.ntmps27
  go_wp2_with fail
  have f2 := ((Fr.refl No w).alloc (.cells #[byteV m.a, byteV m.b, byteV m.c, byteV m.d, byteV m.e, byteV m.f] 24)).alloc (.cells #[.bool pt, .int .i64 pn] 34)
  have b1 := ((Fr.refl No _).alloc (.cells #[.bool pt, .int .i64 pn] 34)).heap (heap_alloc_new w (.cells #[byteV m.a, byteV m.b, byteV m.c, byteV m.d, byteV m.e, byteV m.f] 24)) (fun h => h)
  have b2 := heap_alloc_new (w.alloc (.cells #[byteV m.a, byteV m.b, byteV m.c, byteV m.d, byteV m.e, byteV m.f] 24)) (.cells #[.bool pt, .int .i64 pn] 34)
  rw [show (w.alloc (.cells #[byteV m.a, byteV m.b, byteV m.c, byteV m.d, byteV m.e, byteV m.f] 24)).heap.size = w.heap.size + 1 from by simp] at b2
  have H2 := Lib.hid (H.out.no f2)
  have F2 := Lib.hid f2
  have B1 := Lib.hid b1
  have B2 := Lib.hid b2
  clear f2 b1 b2
  generalize (w.alloc (.cells #[byteV m.a, byteV m.b, byteV m.c, byteV m.d, byteV m.e, byteV m.f] 24)).alloc (.cells #[.bool pt, .int .i64 pn] 34) = w2 at B1 B2 H2 F2 ⊢
  refine (fbGroup_any m w2).mono ?_
  rintro e' w3 ⟨rfl, f3⟩
  have H3 := Lib.hid (H2.out.no f3)
  have F3 := Lib.hid (F2.out.then_no f3)
  have b13 := f3.heap B1.out (fun h => h)
  have b23 := f3.heap B2.out (fun h => h)
  have B23 := Lib.hid b23
  obtain ⟨c0, c1, c2, c3, c4, c5⟩ := cells6 b13
  obtain ⟨q0, q1⟩ := cells2 b23
  have B13 := Lib.hid b13
  clear f3 b13 b23 B1 B2 H2 F2
  obtain ⟨gm, hgm⟩ : ∃ g, grpM m = g := ⟨_, rfl⟩
  rw [hgm]
  have HGM := Lib.hid hgm
  clear hgm
  cases gm
  · go_wp2_with fail
    obtain ⟨k0, k1, k2⟩ := H3.out.cells
    have lk := fun n => H3.out.look m (w3.drewN n) rfl
    unfold evM at lk
    obtain ⟨g, hg⟩ : ∃ g, mget L m = g := ⟨_, rfl⟩
    rw [hg] at lk
    have HG := Lib.hid hg
    have hag := HA.out.get H3.out.key m
    rw [hg] at hag
    have HAG := Lib.hid hag
    clear hg hag
    cases g with
    | none =>
      simp only [Option.map_none] at lk HAG
      go_quiet (fail)
      generalize hw8 : World.drewN _ _ = w8
      have H8 := Lib.hid (show Fd w8 tb mb room life L by rw [← hw8]; exact H3.out.no ((Fr.refl _ _).drewN _))
      have F8 := Lib.hid (show Fr No w w8 by rw [← hw8]; exact F3.out.drewN _)
      obtain ⟨c0, c1, c2, c3, c4, c5⟩ := cells6 (show w8.heap[w.heap.size]? = _ by rw [← hw8]; exact B13.out)
      obtain ⟨q0, q1⟩ := cells2 (show w8.heap[w.heap.size + 1]? = _ by rw [← hw8]; exact B23.out)
      clear hw8 k0 k1 k2 lk H3 F3
      go_wp2_with fail
      refine (fbAdd_any H8.out (e := ⟨m, pt, pn, now, false⟩) ⟨HP.out, hn0, hn1⟩ HG.out).mono ?_
      rintro e' w9 ⟨c, L', rfl, haf, h9, f9⟩
      have H9 := Lib.hid h9
      have hsz := F8.out.size
      have hab := haf.ab HA.out H.out.key H.out.nd
      have hnb := haf.nb
      have F9 := Lib.hid ((F8.out.of_no.trans f9).mono (S' := FS mb L) (fun k _ h => .inl h))
      have AB := Lib.hid hab
      have NB := Lib.hid hnb
      clear haf h9 f9 hab hnb
      go_wp2_with fail
      go_ret2
      have hr : alearn room A m ⟨pt, pn⟩ now = (false, aadd room A ⟨m, pt, pn, now, false⟩) := by
        unfold alearn
        rw [HGM.out, HAG.out]
        rfl
      rw [AB.out.1]
      exact LearnPF.mk' hr H9.out AB.out.2 (NB.out.le hsz) F9.out
    | some q =>
      obtain ⟨b, e⟩ := q
      simp only [Option.map_some] at lk HAG
      obtain ⟨mv, hmv⟩ : ∃ mv, (!decide (e.pl = ⟨pt, pn⟩)) = mv := ⟨_, rfl⟩
      have HMV := Lib.hid hmv
      have hq := mget_some HG.out
      have HEM := Lib.hid (show e.mac = m from H.out.key _ hq)
      have HOK := Lib.hid (show e.ok from H.out.ok _ hq)
      have HQ := Lib.hid hq
      have hbm : b ≠ mb := H.out.bne _ hq
      have hbt : b ≠ tb := H.out.btn _ hq
      have hbl : b < w.heap.size := H.out.lt _ hq
      have e1 : ∀ W, (binOp .neq 34 (.agg #[.bool e.tun, .int .i64 e.n]) (.agg #[.bool pt, .int .i64 pn])).run Tryd.prog W = .ok (.bool mv) W := fun W => by rw [← hmv]; exact neqPl e.pl ⟨pt, pn⟩ W
      clear hmv hq
      go_quiet (fail)
      generalize hw8 : World.drewN _ _ = w8
      have H8 := Lib.hid (show Fd w8 tb mb room life L by rw [← hw8]; exact H3.out.no ((Fr.refl _ _).drewN _))
      have F8 := Lib.hid (show Fr No w w8 by rw [← hw8]; exact F3.out.drewN _)
      have B28 := Lib.hid (show w8.heap[w.heap.size + 1]? = some (.cells #[.bool pt, .int .i64 pn] 34 (0, 0)) by rw [← hw8]; exact B23.out)
      obtain ⟨q0, q1⟩ := cells2 B28.out
      have HE := Lib.hid (show EnAt w8 b e from H8.out.ent _ HQ.out)
      obtain ⟨-, -, -, -, -, -, c6, c7, c8, c9⟩ := HE.out.cells
      clear hw8 k0 k1 k2 lk H3 F3
      go_wp2_with fail
      go_quiet (fail)
      generalize hwa : World.drewN _ _ = wa
      have HA8 := Lib.hid (show Fd wa tb mb room life L by rw [← hwa]; exact H8.out.no ((Fr.refl _ _).drewN _))
      have FA := Lib.hid (show Fr No w wa by rw [← hwa]; exact F8.out.drewN _)
      have HEA := Lib.hid (show EnAt wa b e by rw [← hwa]; exact HE.out)
      have B2A := Lib.hid (show wa.heap[w.heap.size + 1]? = some (.cells #[.bool pt, .int .i64 pn] 34 (0, 0)) by rw [← hwa]; exact B28.out)
      clear hwa H8 F8 HE c6 c7 c8 c9 q0 q1 e1
      obtain ⟨st, hst⟩ : ∃ st, e.st = st := ⟨_, rfl⟩
      have HST := Lib.hid hst
      obtain ⟨q0, q1⟩ := cells2 B2A.out
      obtain ⟨-, -, -, -, -, -, c6, c7, c8, c9⟩ := HEA.out.cells
      rw [hst] at c9
      clear hst
      cases st
      · have z6 := frozen_of_row wa b 6 _ _ HEA.out
        have z7 := frozen_of_row wa b 7 _ _ HEA.out
        have z8 := frozen_of_row wa b 8 _ _ HEA.out
        go_wp2_with fail
        go_ret2
        have hw := set_row (set_row (set_row HEA.out 6 (.bool pt)) 7 (.int .i64 pn)) 8 (.int .u64 now)
        have he2 : EnAt (((wa.setCell ⟨b, 6, none⟩ (.bool pt)).setCell ⟨b, 7, none⟩ (.int .i64 pn)).setCell ⟨b, 8, none⟩ (.int .u64 now)) b ⟨m, pt, pn, now, false⟩ := by
          unfold EnAt
          rw [hw, HST.out, HEM.out]
          rfl
        have hf : Fr (Is b) wa (((wa.setCell ⟨b, 6, none⟩ (.bool pt)).setCell ⟨b, 7, none⟩ (.int .i64 pn)).setCell ⟨b, 8, none⟩ (.int .u64 now)) :=
          (((Fr.refl (Is b) wa).setCell (p := ⟨b, 6, none⟩) (.inl rfl) _).setCell (p := ⟨b, 7, none⟩) (.inl rfl) _).setCell (p := ⟨b, 8, none⟩) (.inl rfl) _
        refine LearnPF.mk' (r := (mv, 0, aput A ⟨m, pt, pn, now, false⟩)) ?_ (HA8.out.upd (e := ⟨m, pt, pn, now, false⟩) HG.out ⟨HP.out, hn0, hn1⟩ he2 hf) (HA.out.put H.out.key H.out.nd ⟨m, pt, pn, now, false⟩ b)
          ((Nb.sub fun _ h => h).put _ _ _ (.inl ⟨_, HQ.out, rfl⟩)) (FA.out.of_no.trans (hf.mono (fun k _ hk => .inr ⟨_, HQ.out, hk⟩)))
        unfold alearn
        rw [HGM.out, HAG.out, ← HMV.out]
        simp [HST.out]
      · go_wp2_with fail
        go_ret2
        refine LearnPF.mk' (r := (mv, 0, A)) ?_ HA8.out HA.out (Nb.sub fun _ h => h) FA.out.of_no
        unfold alearn
        rw [HGM.out, HAG.out, ← HMV.out]
        simp [HST.out]
  · go_wp2_with fail
    go_ret2
    exact LearnPF.mk' (r := (false, 1, A)) (by unfold alearn; rw [HGM.out]; rfl) H3.out HA.out (Nb.sub fun _ h => h) F3.out.of_no
end Go.Proofs.YticebdoiahadoaaDoor
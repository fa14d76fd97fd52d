/- fdb: Static. -/
import Derived.Test.YtgmaelndhmnjiaaDoorFd21
namespace Go.Proofs.YtgmaelndhmnjiaaDoor
open Go.RowKit
set_option linter.unusedVariables false
set_option linter.unusedSimpArgs false

def StaticPF (w : World) (tb mb : Nat) (room life : Int) (L : FL) (A : AL) (m : Mac) (p : Pl) (e : Ending) (w' : World) : Prop :=
  ∃ L', e = .returned (.int .i64 (astatic room A m p).1) ∧ Fd w' tb mb room life L' ∧ Ab L' (astatic room A m p).2 ∧ Nb w L L' ∧ Fr (Is mb) w w'
theorem StaticPF.mk' {w : World} {tb mb : Nat} {room life : Int} {L : FL} {A : AL} {m : Mac} {p : Pl} {w' : World} {r : Int × AL} (hr : astatic room A m p = r) {L' : FL} (h1 : Fd w' tb mb room life L') (h2 : Ab L' r.2) (h3 : Nb w L L') (h4 : Fr (Is mb) w w') :
    StaticPF w tb mb room life L A m p (.returned (.int .i64 r.1)) w' := by
  subst hr; exact ⟨L', rfl, h1, h2, h3, h4⟩

set_option maxRecDepth 100000 in
set_option maxHeartbeats 4000000 in
theorem fbStatic_any {w : World} {tb mb : Nat} {room life : Int} {L : FL} (h : Fd w tb mb room life L) {A : AL} (ha : Ab L A) (m : Mac) (p : Pl) (hp : -9223372036854775808 ≤ p.n ∧ p.n ≤ 9223372036854775807) :
    Calls Tryd.prog 18 #[.pointer (some ⟨tb, 0, none⟩), evM m, evPL p] w (StaticPF w tb mb room life L A m p) := by
  have H := Lib.hid h
  have HA := Lib.hid ha
  have hlm := h.mp.lt
  have hlt := lt_of_heap h.box
  obtain ⟨pt, pn⟩ := p
  have HP := Lib.hid hp
  clear h ha hp
  unfold evM evPL byteV
  simp only
  go_enter Tryd.func18, Tryd.ntmps18
  go_wp2_with fail
  obtain ⟨o1, ho1⟩ : ∃ o : Obj, o = .cells #[.int .u8 m.a.toNat, .int .u8 m.b.toNat, .int .u8 m.c.toNat, .int .u8 m.d.toNat, .int .u8 m.e.toNat, .int .u8 m.f.toNat] 31 := ⟨_, rfl⟩
  obtain ⟨o2, ho2⟩ : ∃ o : Obj, o = .cells #[.bool pt, .int .i64 pn] 33 := ⟨_, rfl⟩
  obtain ⟨o3, ho3⟩ : ∃ o : Obj, o = .cells #[.int .u8 m.a.toNat, .int .u8 m.b.toNat, .int .u8 m.c.toNat, .int .u8 m.d.toNat, .int .u8 m.e.toNat, .int .u8 m.f.toNat, .bool pt, .int .i64 pn, .int .u64 0, .bool true] 60 := ⟨_, rfl⟩
  rw [← ho1, ← ho2, ← ho3]
  have f2 := (((Fr.refl No w).alloc o1).alloc o2).alloc o3
  have b1 : (((w.alloc o1).alloc o2).alloc o3).heap[w.heap.size]? = some o1 := (((Fr.refl No _).alloc o2).alloc o3).heap (heap_alloc_new w o1) (fun h => h)
  have b2 : (((w.alloc o1).alloc o2).alloc o3).heap[w.heap.size + 1]? = some o2 := by
    have h1 := heap_alloc_new (w.alloc o1) o2
    rw [show (w.alloc o1).heap.size = w.heap.size + 1 from by simp] at h1
    exact ((Fr.refl No _).alloc o3).heap h1 (fun h => h)
  have b3 : (((w.alloc o1).alloc o2).alloc o3).heap[w.heap.size + 1 + 1]? = some o3 := by
    have h1 := heap_alloc_new ((w.alloc o1).alloc o2) o3
    rwa [show ((w.alloc o1).alloc o2).heap.size = w.heap.size + 1 + 1 from by simp] at h1
  have H2 := Lib.hid (H.out.no f2)
  have F2 := Lib.hid f2
  subst ho1 ho2 ho3
  have B1 := Lib.hid b1
  have B2 := Lib.hid b2
  have B3 := Lib.hid b3
  clear f2 b1 b2 b3
  generalize World.alloc _ _ = w2 at B1 B2 B3 H2 F2 ⊢
  refine (fbGroup_any m w2).mono ?_
  rintro e' w3 ⟨rfl, f3⟩
  have H3 := Lib.hid (H2.out.no f3)
  have F3 := Lib.hid (F2.out.then_no f3)
  have B13 := Lib.hid (f3.heap B1.out (fun h => h))
  have B33 := Lib.hid (show EnAt w3 (w.heap.size + 1 + 1) ⟨m, pt, pn, 0, true⟩ from f3.heap B3.out (fun h => h))
  clear f3 B1 B2 B3 H2 F2
  obtain ⟨gm, hgm⟩ : ∃ g, grpM m = g := ⟨_, rfl⟩
  rw [hgm]
  have HGM := Lib.hid hgm
  clear hgm
  cases gm
  · obtain ⟨k0, k1, k2⟩ := H3.out.cells
    obtain ⟨c0, c1, c2, c3, c4, c5⟩ := cells6 B13.out
    have lk := fun n => H3.out.look m (w3.drewN n) rfl
    unfold evM byteV at lk
    obtain ⟨g, hg⟩ : ∃ g, mget L m = g := ⟨_, rfl⟩
    rw [hg] at lk
    have HG := Lib.hid hg
    have hag := HA.out.get H3.out.key m
    rw [hg] at hag
    have HAG := Lib.hid hag
    clear hg hag
    go_wp2_with fail
    cases g with
    | none =>
      simp only [Option.map_none] at lk HAG
      go_quiet (fail)
      generalize hw8 : World.drewN _ _ = w8
      have H8 := Lib.hid (show Fd w8 tb mb room life L by rw [← hw8]; exact H3.out.no ((Fr.refl _ _).drewN _))
      have F8 := Lib.hid (show Fr No w w8 by rw [← hw8]; exact F3.out.drewN _)
      have B8 := Lib.hid (show EnAt w8 (w.heap.size + 1 + 1) ⟨m, pt, pn, 0, true⟩ by rw [← hw8]; exact B33.out)
      clear hw8 k0 k1 k2 lk H3 F3 c0 c1 c2 c3 c4 c5
      obtain ⟨c0, c1, c2, c3, c4, c5, c6, c7, c8, c9⟩ := B8.out.cells
      unfold byteV at c0 c1 c2 c3 c4 c5
      simp only at c0 c1 c2 c3 c4 c5 c6 c7 c8 c9
      go_wp2_with fail
      refine (fbAdd_any H8.out (e := ⟨m, pt, pn, 0, true⟩) ⟨HP.out, by simp, by simp⟩ HG.out).mono ?_
      rintro e' w9 ⟨c, L', rfl, haf, h9, f9⟩
      have H9 := Lib.hid h9
      have hsz := F8.out.size
      have hab := haf.ab HA.out H.out.key H.out.nd
      have hnb := haf.nb
      have F9 := Lib.hid (F8.out.of_no.trans f9)
      have AB := Lib.hid hab
      have NB := Lib.hid hnb
      clear haf h9 f9 hab hnb c0 c1 c2 c3 c4 c5 c6 c7 c8 c9
      go_wp2_with fail
      go_ret
      rw [AB.out.1]
      refine StaticPF.mk' ?_ H9.out AB.out.2 (NB.out.le hsz) F9.out
      unfold astatic
      rw [HGM.out, HAG.out]
      rfl
    | some q =>
      obtain ⟨b, e⟩ := q
      simp only [Option.map_some] at lk HAG
      go_quiet (fail)
      generalize hw8 : World.drewN _ _ = w8
      have H8 := Lib.hid (show Fd w8 tb mb room life L by rw [← hw8]; exact H3.out.no ((Fr.refl _ _).drewN _))
      have F8 := Lib.hid (show Fr No w w8 by rw [← hw8]; exact F3.out.drewN _)
      have B8 := Lib.hid (show EnAt w8 (w.heap.size + 1 + 1) ⟨m, pt, pn, 0, true⟩ by rw [← hw8]; exact B33.out)
      have B18 := Lib.hid (show w8.heap[w.heap.size]? = some (.cells #[.int .u8 m.a.toNat, .int .u8 m.b.toNat, .int .u8 m.c.toNat, .int .u8 m.d.toNat, .int .u8 m.e.toNat, .int .u8 m.f.toNat] 31 (0, 0)) by rw [← hw8]; exact B13.out)
      clear hw8 k0 k1 k2 lk H3 F3 c0 c1 c2 c3 c4 c5
      go_wp2_with fail
      obtain ⟨k0, k1, k2⟩ := H8.out.cells
      obtain ⟨c0, c1, c2, c3, c4, c5⟩ := cells6 B18.out
      obtain ⟨w4, hpu, m4, f4, s4⟩ := Mp.put (w := w8.drew) (H8.out.mp.of_heap rfl) keM (P := Tryd.prog) Tryd.underlying67 (k := m) trivial (w.heap.size + 1 + 1)
      simp only [evM, evP, byteV] at hpu
      have hbm : w.heap.size + 1 + 1 ≠ mb := by omega
      have hbt : ¬ Is mb tb := fun h => H.out.tne h
      have H4 := Lib.hid (H8.out.putG (S := Is mb) (e := ⟨m, pt, pn, 0, true⟩) (eb := w.heap.size + 1 + 1) (fun h0 => by simp only at h0; rw [HG.out] at h0; cases h0) ⟨HP.out, by simp, by simp⟩ (f4.heap B8.out (fun h => hbm h)) (fun p hp _ => by have := H.out.lt p hp; omega) m4 ((Fr.refl (Is mb) w8).drew.trans f4) hbt (fun p hp _ h => H.out.bne p hp h))
      have F4 := Lib.hid (F8.out.of_no.trans ((Fr.refl (Is mb) w8).drew.trans f4))
      clear m4 f4 s4
      go_region
      go_wp2_with fail
      go_ret
      refine StaticPF.mk' (r := (0, aput A ⟨m, pt, pn, 0, true⟩)) ?_ H4.out (HA.out.put H.out.key H.out.nd ⟨m, pt, pn, 0, true⟩ _) ((Nb.sub fun _ h => h).put _ _ _ (.inr (by omega))) F4.out
      unfold astatic
      rw [HGM.out, HAG.out]
      rfl
  · go_wp2_with fail
    go_ret
    exact StaticPF.mk' (r := (1, A)) (by unfold astatic; rw [HGM.out]; rfl) H3.out HA.out (Nb.sub fun _ h => h) F3.out.of_no
end Go.Proofs.YtgmaelndhmnjiaaDoor

/- fdb: add where there is no room: its walk. -/
import Derived.Test.YticebdoiahadoaaDoorFd19
namespace Go.Proofs.YticebdoiahadoaaDoor
open Go.RowKit
set_option linter.unusedVariables false
set_option linter.unusedSimpArgs false
set_option maxRecDepth 100000 in
set_option maxHeartbeats 4000000 in
theorem fbAdd_full {w : World} {tb mb : Nat} {room life : Int} {L : FL} (h : Fd w tb mb room life L) {e : En} (hok : e.ok) (hg : mget L e.mac = none) (hl : room ≤ (L.length : Int)) (hle : (L.length : Int) ≤ room) :
    Calls Tryd.prog 36 #[.pointer (some ⟨tb, 0, none⟩), evE e] w (AddPF w tb mb room life L e) := by
  have H := Lib.hid h
  have HK := Lib.hid hok
  have HG := Lib.hid hg
  have hlm := h.mp.lt
  have hlt := lt_of_heap h.box
  have hll := h.len
  clear h hok hg
  unfold evE
  go_enter Tryd.func36, Tryd.ntmps36
  go_wp2_with fail
  have f2 := (Fr.refl No w).alloc (.cells #[byteV e.mac.a, byteV e.mac.b, byteV e.mac.c, byteV e.mac.d, byteV e.mac.e, byteV e.mac.f, .bool e.tun, .int .i64 e.n, .int .u64 e.at_, .bool e.st] 66)
  have b1 : EnAt (w.alloc (.cells #[byteV e.mac.a, byteV e.mac.b, byteV e.mac.c, byteV e.mac.d, byteV e.mac.e, byteV e.mac.f, .bool e.tun, .int .i64 e.n, .int .u64 e.at_, .bool e.st] 66)) w.heap.size e := heap_alloc_new w _
  have H2 := Lib.hid (H.out.no f2)
  have F2 := Lib.hid f2
  have B1 := Lib.hid b1
  clear f2 b1
  generalize w.alloc (.cells #[byteV e.mac.a, byteV e.mac.b, byteV e.mac.c, byteV e.mac.d, byteV e.mac.e, byteV e.mac.f, .bool e.tun, .int .i64 e.n, .int .u64 e.at_, .bool e.st] 66) = w2 at B1 H2 F2 ⊢
  obtain ⟨k0, k1, k2⟩ := H2.out.cells
  have ln := fun n => H2.out.lenRun (w2.drewN n) rfl
  have hlr : decide (room ≤ (L.length : Int)) = true := by simpa using hl
  go_quiet (fail)
  generalize hw3 : World.drewN _ _ = w3
  have H3 := Lib.hid (show Fd w3 tb mb room life L by rw [← hw3]; exact H2.out.no ((Fr.refl _ _).drewN _))
  have B3 := Lib.hid (show EnAt w3 w.heap.size e by rw [← hw3]; exact B1.out)
  have F3 := Lib.hid (show Fr No w w3 by rw [← hw3]; exact F2.out.drewN _)
  clear hw3 k0 k1 k2 ln B1 H2 F2
  obtain ⟨k0, k1, k2⟩ := H3.out.cells
  go_wp2_with fail
  refine (fbValues_any w3 (some mb)).mono ?_
  rintro e' w4 ⟨rfl, rfl⟩
  have f4 := (Fr.refl No w3).alloc (.cells #[.map (some mb)] 61)
  have X4 := Lib.hid (heap_alloc_new w3 (.cells #[.map (some mb)] 61))
  have H4 := Lib.hid (H3.out.no f4)
  have B4 := Lib.hid (f4.heap B3.out (fun h => h))
  have F4 := Lib.hid (F3.out.then_no f4)
  clear f4 k0 k1 k2 H3 B3 F3
  go_wp2_with fail
  generalize w3.heap.size = bm at X4 ⊢
  generalize w3.alloc (.cells #[.map (some mb)] 61) = w4 at X4 H4 B4 F4 ⊢
  refine (fbCollect_any w4 (cell_box X4.out) H4.out.mp (by rw [List.length_map]; omega)).mono ?_
  rintro e' w5 ⟨v, xs, rfl, hxp, hxl, hxo, hbl⟩
  obtain ⟨ao, cap, rfl, ho5, hb5⟩ := Own.of_owns hxo
  have hxp2 : xs.Perm (L.map (·.2.1)) := by rw [List.map_map] at hxp; exact hxp
  have f5 : Fr No w4 w5 := (Fr.of_below hbl).up (Nat.le_refl _)
  have H5 := Lib.hid (H4.out.no f5)
  have B5 := Lib.hid (show EnAt w5 w.heap.size e from f5.heap B4.out (fun h => h))
  have F5 := Lib.hid (F4.out.then_no f5)
  have HXP := Lib.hid hxp2
  have HB5 := Lib.hid hb5
  have hmem : ∀ b ∈ xs, ∃ p ∈ L, p.2.1 = b ∧ enB L b = p.2.2 := by
    intro b hb
    obtain ⟨p, hp, rfl⟩ := List.mem_map.1 (hxp2.mem_iff.1 hb)
    exact ⟨p, hp, rfl, enB_mem H4.out.dis hp⟩
  have HM := Lib.hid hmem
  have hlk : LooksP w5 (At ao) 45 #[] xs (fun b => (enB L b).st) := by
    intro W hW b hb
    obtain ⟨p, hp, hpb, hpe⟩ := hmem b hb
    have hE : EnAt W b (enB L b) := by
      rw [hpe, ← hpb]
      exact hW.heap (H5.out.ent p hp) (fun ⟨a, ha, hab⟩ => by have h1 := hb5 a ha; have h2 := H4.out.lt p hp; omega)
    exact fbAddF_any hE rfl
  have HLK := Lib.hid hlk
  have HO5 := Lib.hid ho5
  have hx64 : xs.length ≤ 64 := by have := hxp2.length_eq; simp at this; omega
  have HL4 := Lib.hid H4.out.lt
  have h4t : tb < w4.heap.size := lt_of_heap H4.out.box
  have h4m : mb < w4.heap.size := H4.out.mp.lt
  have h4e : w.heap.size < w4.heap.size := lt_of_heap B4.out
  clear hxp hxl hxo hbl hb5 hxp2 f5 hmem hlk ho5 H4 B4 F4 X4
  go_wp2_with fail
  refine (fbDeleteFunc_any rfl (by omega) HO5.out HLK.out (enters_of Tryd.func45 (by kernel_rfl) rfl)).mono ?_
  rintro e' w6 ⟨n', rfl, hn', ho6, f6⟩
  obtain ⟨ys, hys⟩ : ∃ ys, (xs.filter fun b => !(enB L b).st) = ys := ⟨_, rfl⟩
  rw [hys] at hn' ho6
  have hym : ∀ b, b ∈ ys ↔ ∃ p ∈ L, p.2.1 = b ∧ p.2.2.st = false := by
    intro b
    rw [← hys, List.mem_filter]
    constructor
    · rintro ⟨h1, h2⟩
      obtain ⟨p, hp, hpb, hpe⟩ := HM.out b h1
      rw [hpe] at h2
      exact ⟨p, hp, hpb, by simpa using h2⟩
    · rintro ⟨p, hp, rfl, h2⟩
      refine ⟨HXP.out.mem_iff.2 (List.mem_map.2 ⟨p, hp, rfl⟩), ?_⟩
      rw [enB_mem H5.out.dis hp, h2]; rfl
  have HYM := Lib.hid hym
  have hao : ∀ p ∈ L, ¬ At ao p.2.1 := by
    rintro p hp ⟨a, ha, hab⟩
    have h1 := HB5.out a ha
    have h2 := HL4.out p hp
    omega
  have H6 := Lib.hid (H5.out.fr f6 (fun ⟨a, ha, hab⟩ => by have h1 := HB5.out a ha; omega) (fun ⟨a, ha, hab⟩ => by have h1 := HB5.out a ha; omega) hao)
  have B6 := Lib.hid (show EnAt w6 w.heap.size e from f6.heap B5.out (fun ⟨a, ha, hab⟩ => by have h1 := HB5.out a ha; omega))
  have F6 := Lib.hid (F5.out.then f6 (fun i hi ⟨a, ha, hab⟩ => by have h1 := HB5.out a ha; omega))
  have HN' := Lib.hid hn'
  have HO6 := Lib.hid ho6
  have hn64 : n' ≤ 64 := by have h1 := hn'; have h2 : ys.length ≤ xs.length := by rw [← hys]; exact List.length_filter_le _ _
                            omega
  clear hys hym hao hn' ho6 f6 H5 B5 F5 HO5 HLK
  by_cases h0 : n' = 0
  · subst h0
    have hst : ∀ p ∈ L, p.2.2.st = true := by
      intro p hp
      cases hh : p.2.2.st with
      | true => rfl
      | false =>
        have := (HYM.out p.2.1).2 ⟨p, hp, rfl, hh⟩
        have h2 := HN'.out
        rw [List.eq_nil_of_length_eq_zero h2.symm] at this; cases this
    have HST := Lib.hid hst
    clear hst
    go_wp2_with fail
    go_ret
    exact ⟨5, L, rfl, .inr (.inl ⟨hl, HST.out, rfl, rfl⟩), H6.out, F6.out.of_no⟩
  · obtain ⟨x, l, hxl⟩ : ∃ x l, ys = x :: l := by
      cases ys with
      | nil => have := HN'.out; simp at this; omega
      | cons x l => exact ⟨x, l, rfl⟩
    subst hxl
    obtain ⟨m, hm⟩ : ∃ m, minB (fun b c => cmpA (enB L b) (enB L c)) x l = m := ⟨_, rfl⟩
    have hmm : m ∈ x :: l := by rw [← hm]; exact minB_mem _ _ _
    obtain ⟨p, hp, hpm, hps⟩ := (HYM.out m).1 hmm
    have hleast : ∀ q ∈ L, q.2.2.st = false → ¬ cmpA q.2.2 p.2.2 < 0 := by
      intro q hq hqs
      have h1 := minB_least (fun b c => cmpA (enB L b) (enB L c)) (fun a b c => cmpA_trans _ _ _) (fun a => cmpA_irrefl _) (fun a b => cmpA_asymm _ _) x l q.2.1 ((HYM.out q.2.1).2 ⟨q, hq, rfl, hqs⟩)
      rw [hm] at h1
      have e1 := enB_mem H6.out.dis hq
      have e2 := enB_mem H6.out.dis hp
      rw [hpm] at e2
      simp only [e1, e2] at h1
      exact h1
    have hlk : LooksC w6 47 #[] (x :: l) (fun b c => cmpA (enB L b) (enB L c)) := by
      intro W hW b hb c hc
      obtain ⟨pb, hpb, rfl, -⟩ := (HYM.out b).1 hb
      obtain ⟨pc, hpc, rfl, -⟩ := (HYM.out c).1 hc
      have e1 := enB_mem H6.out.dis hpb
      have e2 := enB_mem H6.out.dis hpc
      exact fbCompare_any (hW.heap (H6.out.ent pb hpb) (fun h => h)) (hW.heap (H6.out.ent pc hpc) (fun h => h)) (by simp only [e1, e2])
    have HLC := Lib.hid hlk
    have HP := Lib.hid hp
    have HPM := Lib.hid hpm
    have HPS := Lib.hid hps
    have HLE := Lib.hid hleast
    have HMN := Lib.hid hm
    clear hm hmm hp hpm hps hleast hlk
    go_wp2_with fail
    have hmn : m ≠ mb := by rw [← HPM.out]; exact H6.out.bne p HP.out
    have htn : tb ≠ mb := H6.out.tne
    have SF : Hid (∀ w', Fr (Is mb) w6 w' → w'.cell? ⟨tb, 2, none⟩ = some (.map (some mb)) ∧ w'.cell? ⟨m, 0, none⟩ = some (byteV p.2.2.mac.a) ∧ w'.cell? ⟨m, 1, none⟩ = some (byteV p.2.2.mac.b) ∧ w'.cell? ⟨m, 2, none⟩ = some (byteV p.2.2.mac.c) ∧ w'.cell? ⟨m, 3, none⟩ = some (byteV p.2.2.mac.d) ∧ w'.cell? ⟨m, 4, none⟩ = some (byteV p.2.2.mac.e) ∧ w'.cell? ⟨m, 5, none⟩ = some (byteV p.2.2.mac.f)) := Lib.hid (by
      intro w' f
      have h1 := f.heap H6.out.box (fun h => htn h)
      have h2 : EnAt w' m p.2.2 := by rw [← HPM.out]; exact f.heap (H6.out.ent p HP.out) (fun h => H6.out.bne p HP.out h)
      obtain ⟨c0, c1, c2, c3, c4, c5, -⟩ := h2.cells
      exact ⟨by rw [cell_of_row w' tb 2 _ _ _ h1]; rfl, c0, c1, c2, c3, c4, c5⟩)
    go_region_held3 (fun w' => w'.cell? ⟨tb, 2, none⟩ = some (.map (some mb)) ∧ w'.cell? ⟨m, 0, none⟩ = some (byteV p.2.2.mac.a) ∧ w'.cell? ⟨m, 1, none⟩ = some (byteV p.2.2.mac.b) ∧ w'.cell? ⟨m, 2, none⟩ = some (byteV p.2.2.mac.c) ∧ w'.cell? ⟨m, 3, none⟩ = some (byteV p.2.2.mac.d) ∧ w'.cell? ⟨m, 4, none⟩ = some (byteV p.2.2.mac.e) ∧ w'.cell? ⟨m, 5, none⟩ = some (byteV p.2.2.mac.f))
      (first | exact SF.out _ (F8.out.of_no.trans F9.out) | exact SF.out _ F8.out.of_no | exact SF.out _ (Fr.refl _ _).drew)
      ((go_at_call 46; refine (fbMinFunc_any HN'.out (by omega) (HO6.out.no (Fr.refl No w6).drew) (fun W hW => HLC.out W ((Fr.refl No w6).drew.trans hW)) (enters_of Tryd.func47 (by kernel_rfl) rfl)).mono ?_; rw [HMN.out]; unfold evP; rintro r w8 ⟨rfl, f8⟩; have F8 := Lib.hid ((Fr.refl No w6).drew.then_no f8); clear f8; obtain ⟨w9, hdel, m9, f9, s9⟩ := (H6.out.mp.no F8.out).del (P := Tryd.prog) keM Tryd.underlying61 (k := p.2.2.mac) trivial (ty := 0); simp only [evM] at hdel; have M9 := Lib.hid m9; have F9 := Lib.hid f9; clear m9 f9 s9))
    have hkey : p.2.2.mac = p.1 := H6.out.key p HP.out
    have f69 : Fr (Is mb) w6 w9 := F8.out.of_no.trans F9.out
    have H9 := Lib.hid (show Fd w9 tb mb room life (mdel L p.1) from H6.out.filter (fun x => decide (x.1 ≠ p.1)) (by rw [show (L.filter fun x => decide (x.1 ≠ p.1)) = mdel L p.1 from rfl, ← mdel_pr, ← hkey]; exact M9.out) f69)
    have B9 := Lib.hid (show EnAt w9 w.heap.size e from f69.heap B6.out (fun h : w.heap.size = mb => by omega))
    have FF := Lib.hid (F6.out.of_no.trans f69)
    have hlen9 : ((mdel L p.1).length : Int) < room := by
      have h1 := mdel_length H6.out.nd p.1
      have h2 := List.length_pos_of_mem HP.out
      rw [mget_of_mem H6.out.nd (k := p.1) (v := p.2) HP.out] at h1
      simp at h1
      omega
    have HG9 := Lib.hid (show mget (mdel L p.1) e.mac = none from by rw [mget_mdel H6.out.nd, HG.out]; split <;> rfl)
    have HLT := Lib.hid H.out.lt
    clear hkey f69 SF M9 F9 F8 B6 H6
    obtain ⟨k0, k1, k2⟩ := H9.out.cells
    obtain ⟨c0, c1, c2, c3, c4, c5, c6, c7, c8, c9⟩ := B9.out.cells
    go_wp2_with fail
    obtain ⟨wz, hp, mz, fz, sz⟩ := Mp.put (w := w9.drew) (H9.out.mp.of_heap rfl) keM (P := Tryd.prog) Tryd.underlying61 (k := e.mac) trivial w.heap.size
    simp only [evM, evP] at hp
    have hbm : w.heap.size ≠ mb := by omega
    have HZ := Lib.hid (H9.out.put HG9.out hlen9 HK.out (fz.heap B9.out (fun h => hbm h)) (fun q hq => by have := HLT.out q (mem_mdel.1 hq).1; omega) mz ((Fr.refl (Is mb) w9).drew.trans fz))
    have FZ := Lib.hid (FF.out.trans ((Fr.refl (Is mb) w9).drew.trans fz))
    clear mz fz sz
    go_region
    go_wp2_with fail
    go_ret
    exact ⟨0, _, rfl, .inr (.inr ⟨hl, rfl, p, HP.out, HPS.out, fun q hq hs => Int.not_lt.2 (HLE.out q hq hs), rfl⟩), HZ.out, FZ.out⟩
end Go.Proofs.YticebdoiahadoaaDoor
/- fdb: add. -/
import Derived.Test.YticebdoiahadoaaFd16
namespace Go.Proofs.Yticebdoiahadoaa
open Go.RowKit
set_option linter.unusedVariables false
set_option linter.unusedSimpArgs false

/-- What add does. -/
def AddF (room : Int) (L : FL) (e : En) (eb : Nat) (c : Int) (L' : FL) : Prop :=
  ((L.length : Int) < room ∧ c = 0 ∧ L' = mput L e.mac (eb, e)) ∨
  (room ≤ (L.length : Int) ∧ (∀ p ∈ L, p.2.2.st = true) ∧ c = 5 ∧ L' = L) ∨
  (room ≤ (L.length : Int) ∧ c = 0 ∧ ∃ p ∈ L, p.2.2.st = false ∧ (∀ q ∈ L, q.2.2.st = false → ¬ cmpA q.2.2 p.2.2 < 0) ∧ L' = mput (mdel L p.1) e.mac (eb, e))
def AddPF (w : World) (tb mb : Nat) (room life : Int) (L : FL) (e : En) (r : Ending) (w' : World) : Prop :=
  ∃ (c : Int) (L' : FL), r = .returned (.int .i64 c) ∧ AddF room L e w.heap.size c L' ∧ Fd w' tb mb room life L' ∧ Fr (Is mb) w w'

theorem Fd.lenRun {w : World} {tb mb : Nat} {room life : Int} {L : FL} (h : Fd w tb mb room life L) (W : World) (hW : W.heap[mb]? = w.heap[mb]?) :
    (Builtin.len_ #[87] 3 #[.map (some mb)]).run Try.prog W = .ok (.int .i64 (L.length : Int)) W := by
  have h1 := (h.mp.of_heap hW).len (P := Try.prog) Try.underlying87 3
  rw [List.length_map] at h1
  exact h1
theorem mput_pr (L : FL) (k : Mac) (b : Nat) (e : En) : (mput L k (b, e)).map pr = mput (L.map pr) k b := by
  unfold mput
  have hg : mget (L.map pr) k = (mget L k).map (·.1) := by
    unfold mget
    rw [List.find?_map, Option.map_map, Option.map_map]
    rfl
  rw [hg, Option.isSome_map]
  split
  · rw [List.map_map, List.map_map]
    apply List.map_congr_left
    intro p hp
    simp only [Function.comp]
    show pr (if p.1 = k then (k, b, e) else p) = if (pr p).1 = k then (k, b) else pr p
    by_cases h : p.1 = k
    · rw [if_pos h, if_pos (show (pr p).1 = k from h)]; rfl
    · rw [if_neg h, if_neg (show ¬ (pr p).1 = k from h)]
  · rw [List.map_append]; rfl
/-- One more entry, in a block of its own. -/
theorem Fd.put {w w' : World} {tb mb : Nat} {room life : Int} {L : FL} (h : Fd w tb mb room life L) {e : En} {eb : Nat} (hg : mget L e.mac = none) (hl : (L.length : Int) < room) (hok : e.ok) (he : EnAt w' eb e) (hnew : ∀ p ∈ L, p.2.1 ≠ eb)
    (hm : Mp okM evM evP w' mb (mput (L.map pr) e.mac eb)) (hf : Fr (Is mb) w w') : Fd w' tb mb room life (mput L e.mac (eb, e)) := by
  have hp : mput L e.mac (eb, e) = L ++ [(e.mac, eb, e)] := by unfold mput; rw [hg]; rfl
  have hr := h.rom
  refine ⟨hf.heap h.box (fun e => h.tne e), by rw [mput_pr]; exact hm, ?_, ?_, ?_, ?_, ?_, h.lif, h.rom, by rw [hp]; simp; omega⟩
  · intro p hp2; rw [hp] at hp2
    rcases List.mem_append.1 hp2 with hp2 | hp2
    · exact hf.heap (h.ent p hp2) (fun e => h.bne p hp2 e)
    · rw [List.mem_singleton] at hp2; rw [hp2]; exact he
  · intro p hp2; rw [hp] at hp2
    rcases List.mem_append.1 hp2 with hp2 | hp2
    · exact h.key p hp2
    · rw [List.mem_singleton] at hp2; rw [hp2]
  · intro p hp2; rw [hp] at hp2
    rcases List.mem_append.1 hp2 with hp2 | hp2
    · exact h.ok p hp2
    · rw [List.mem_singleton] at hp2; rw [hp2]; exact hok
  · rw [hp, List.map_append, List.nodup_append]
    refine ⟨h.dis, by simp, ?_⟩
    intro a ha b hb hab
    simp at hb
    obtain ⟨p, hp2, rfl⟩ := List.mem_map.1 ha
    exact hnew p hp2 (hab.trans hb)
  · rw [hp]; simp; omega

set_option maxRecDepth 100000 in
set_option maxHeartbeats 2000000 in
theorem fbAdd_room {w : World} {tb mb : Nat} {room life : Int} {L : FL} (h : Fd w tb mb room life L) {e : En} (hok : e.ok) (hg : mget L e.mac = none) (hl : (L.length : Int) < room) :
    Calls Try.prog 76 #[.pointer (some ⟨tb, 0, none⟩), evE e] w (AddPF w tb mb room life L e) := by
  have H := Lib.hid h
  have HK := Lib.hid hok
  have HG := Lib.hid hg
  have hlm := h.mp.lt
  have hlt := lt_of_heap h.box
  clear h hok hg
  unfold evE
  go_enter Try.func76, Try.ntmps76
  go_wp2_with fail
  have f2 := (Fr.refl No w).alloc (.cells #[byteV e.mac.a, byteV e.mac.b, byteV e.mac.c, byteV e.mac.d, byteV e.mac.e, byteV e.mac.f, .bool e.tun, .int .i64 e.n, .int .u64 e.at_, .bool e.st] 73)
  have b1 : EnAt (w.alloc (.cells #[byteV e.mac.a, byteV e.mac.b, byteV e.mac.c, byteV e.mac.d, byteV e.mac.e, byteV e.mac.f, .bool e.tun, .int .i64 e.n, .int .u64 e.at_, .bool e.st] 73)) w.heap.size e := heap_alloc_new w _
  have H2 := Lib.hid (H.out.no f2)
  have F2 := Lib.hid f2
  have B1 := Lib.hid b1
  clear f2 b1
  generalize w.alloc (.cells #[byteV e.mac.a, byteV e.mac.b, byteV e.mac.c, byteV e.mac.d, byteV e.mac.e, byteV e.mac.f, .bool e.tun, .int .i64 e.n, .int .u64 e.at_, .bool e.st] 73) = w2 at B1 H2 F2 ⊢
  obtain ⟨k0, k1, k2⟩ := H2.out.cells
  have ln := fun n => H2.out.lenRun (w2.drewN n) rfl
  have hlr : decide (room ≤ (L.length : Int)) = false := by simp; omega
  have hlr2 : ¬ room ≤ (L.length : Int) := by omega
  go_quiet (fail)
  generalize hw3 : World.drewN _ _ = w3
  have H3 := Lib.hid (show Fd w3 tb mb room life L by rw [← hw3]; exact H2.out.no ((Fr.refl _ _).drewN _))
  have B3 := Lib.hid (show EnAt w3 w.heap.size e by rw [← hw3]; exact B1.out)
  have F3 := Lib.hid (show Fr No w w3 by rw [← hw3]; exact F2.out.drewN _)
  clear hw3 k0 k1 k2 ln B1 H2 F2
  obtain ⟨k0, k1, k2⟩ := H3.out.cells
  obtain ⟨c0, c1, c2, c3, c4, c5, c6, c7, c8, c9⟩ := B3.out.cells
  go_wp2_with fail
  obtain ⟨w4, hp, m4, f4, s4⟩ := Mp.put (w := w3.drew) (H3.out.mp.of_heap rfl) keM (P := Try.prog) Try.underlying87 (k := e.mac) trivial w.heap.size
  simp only [evM, evP] at hp
  have hbm : w.heap.size ≠ mb := by omega
  have hr64 := H3.out.rom
  have H4 := Lib.hid (H3.out.put HG.out hl HK.out (f4.heap B3.out (fun h => hbm h)) (fun p hp => by have := H.out.lt p hp; omega) m4 ((Fr.refl (Is mb) w3).drew.trans f4))
  have F4 := Lib.hid (F3.out.of_no.trans ((Fr.refl (Is mb) w3).drew.trans f4))
  clear m4 f4 s4
  go_region
  go_wp2_with fail
  go_ret
  exact ⟨0, _, rfl, .inl ⟨hl, rfl, rfl⟩, H4.out, F4.out⟩
end Go.Proofs.Yticebdoiahadoaa

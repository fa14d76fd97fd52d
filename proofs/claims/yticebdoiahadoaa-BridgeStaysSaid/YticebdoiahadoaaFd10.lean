/- fdb: Find. -/
import Derived.Test.YticebdoiahadoaaFd9
namespace Go.Proofs.Yticebdoiahadoaa
open Go.RowKit
set_option linter.unusedVariables false
set_option linter.unusedSimpArgs false

theorem cells2 {w : World} {b : Nat} {c0 c1 : Value} {e : TypeId} {f : Nat × Nat} (h : w.heap[b]? = some (.cells #[c0, c1] e f)) : w.cell? ⟨b, 0, none⟩ = some c0 ∧ w.cell? ⟨b, 1, none⟩ = some c1 :=
  ⟨by rw [cell_of_row w b 0 _ e f h]; rfl, by rw [cell_of_row w b 1 _ e f h]; rfl⟩
theorem free2 {w : World} {b : Nat} {c0 c1 : Value} {e : TypeId} (h : w.heap[b]? = some (.cells #[c0, c1] e (0, 0))) : w.frozen? ⟨b, 0, none⟩ = false ∧ w.frozen? ⟨b, 1, none⟩ = false := ⟨frozen_of_row w b 0 _ e h, frozen_of_row w b 1 _ e h⟩
theorem set2 {w : World} {b : Nat} {c0 c1 : Value} {e : TypeId} (h : w.heap[b]? = some (.cells #[c0, c1] e (0, 0))) (d0 d1 : Value) :
    ((w.setCell ⟨b, 0, none⟩ d0).setCell ⟨b, 1, none⟩ d1).heap[b]? = some (.cells #[d0, d1] e (0, 0)) := by
  have h1 : ∀ (w : World) (cs : Array Value) (j : Nat) (u : Value), w.heap[b]? = some (.cells cs e (0, 0)) → (w.setCell ⟨b, j, none⟩ u).heap[b]? = some (.cells (cs.setIfInBounds j u) e (0, 0)) := by
    intro w cs j u h
    simp only [World.setCell, Array.getElem?_modify, if_true, h, Option.map_some, Option.isSome_none, Bool.false_eq_true, if_false]
  have := h1 _ _ 1 d1 (h1 _ _ 0 d0 h)
  simpa using this
/-- The map's answer. -/
theorem Fd.look {w : World} {tb mb : Nat} {room life : Int} {L : FL} (h : Fd w tb mb room life L) (m : Mac) (W : World) (hW : W.heap[mb]? = w.heap[mb]?) :
    (Instr.lookup 87 (.map (some mb)) (evM m) false).run Try.prog W = .ok (.pointer ((mget L m).map fun p => ⟨p.1, 0, none⟩)) W := by
  have h1 := (h.mp.of_heap hW).look keM Try.underlying87 zeroP (k := m) trivial false
  rw [h1]
  have e : mget (L.map pr) m = (mget L m).map (·.1) := by
    unfold mget
    rw [List.find?_map, Option.map_map, Option.map_map]
    rfl
  rw [e]
  cases mget L m <;> rfl
theorem Fd.nd {w : World} {tb mb : Nat} {room life : Int} {L : FL} (h : Fd w tb mb room life L) : (L.map (·.1)).Nodup := by have := h.mp.nd; rw [List.map_map] at this; exact this
/-- What Find finds. -/
def findF (life : Int) (L : FL) (m : Mac) (now : Int) : Option Pl := (mget L m).bind fun p => if oldE life p.2 now = true then none else some p.2.pl
def FindPF (w : World) (o : Option Pl) (e : Ending) (w' : World) : Prop := e = .returned (.tuple #[evPL (o.getD ⟨false, 0⟩), .bool o.isSome]) ∧ Fr No w w'

set_option maxRecDepth 100000 in
set_option maxHeartbeats 2000000 in
theorem fbFind_any {w : World} {tb mb : Nat} {room life : Int} {L : FL} (h : Fd w tb mb room life L) (m : Mac) {now : Int} (hn0 : 0 ≤ now) (hn1 : now < 18446744073709551616) {o : Option Pl} (ho : findF life L m now = o) :
    Calls Try.prog 17 #[.pointer (some ⟨tb, 0, none⟩), evM m, .int .u64 now] w (FindPF w o) := by
  have H := Lib.hid h
  have hlm := h.mp.lt
  have hlt := lt_of_heap h.box
  clear h
  unfold evM
  go_enter Try.func17, Try.ntmps17
  go_wp2_with fail
  have f2 := ((Fr.refl No w).alloc (.cells #[byteV m.a, byteV m.b, byteV m.c, byteV m.d, byteV m.e, byteV m.f] 25)).alloc (.cells #[.bool false, .int .i64 0] 46)
  have b1 := ((Fr.refl No _).alloc (.cells #[.bool false, .int .i64 0] 46)).heap (heap_alloc_new w (.cells #[byteV m.a, byteV m.b, byteV m.c, byteV m.d, byteV m.e, byteV m.f] 25)) (fun h => h)
  have b2 := heap_alloc_new (w.alloc (.cells #[byteV m.a, byteV m.b, byteV m.c, byteV m.d, byteV m.e, byteV m.f] 25)) (.cells #[.bool false, .int .i64 0] 46)
  rw [show (w.alloc (.cells #[byteV m.a, byteV m.b, byteV m.c, byteV m.d, byteV m.e, byteV m.f] 25)).heap.size = w.heap.size + 1 from by simp] at b2
  have H2 := Lib.hid (H.out.no f2)
  have F2 := Lib.hid f2
  have B2 := Lib.hid b2
  clear f2 b2
  generalize (w.alloc (.cells #[byteV m.a, byteV m.b, byteV m.c, byteV m.d, byteV m.e, byteV m.f] 25)).alloc (.cells #[.bool false, .int .i64 0] 46) = wv at b1 B2 H2 F2 ⊢
  obtain ⟨c0, c1, c2, c3, c4, c5⟩ := cells6 b1
  obtain ⟨k0, k1, k2⟩ := H2.out.cells
  have lk := fun n => H2.out.look m (wv.drewN n) rfl
  unfold evM at lk
  obtain ⟨g, hg⟩ : ∃ g, mget L m = g := ⟨_, rfl⟩
  unfold findF at ho
  rw [hg] at ho lk
  have HG := Lib.hid hg
  have HO := Lib.hid ho
  clear b1 hg ho
  cases g with
  | none =>
    simp only [Option.map_none] at lk
    have hz := HO.out
    simp only [Option.bind_none] at hz
    subst hz
    go_quiet (fail)
    generalize hw8 : World.drewN _ _ = w8
    have hb2 : w8.heap[w.heap.size + 1]? = some (.cells #[.bool false, .int .i64 0] 46 (0, 0)) := by rw [← hw8]; exact B2.out
    have F8 := Lib.hid (show Fr No w w8 by rw [← hw8]; exact F2.out.drewN _)
    clear hw8 c0 c1 c2 c3 c4 c5 k0 k1 k2 lk B2 F2 H2
    obtain ⟨q0, q1⟩ := cells2 hb2
    obtain ⟨p0, p1⟩ := free2 hb2
    have B8 := Lib.hid hb2
    clear hb2
    go_wp2_with fail
    have zz := set2 B8.out (.bool false) (.int .i64 0)
    have FF := Lib.hid ((F8.out.setCell (p := ⟨w.heap.size + 1, 0, none⟩) (.inr (by simp)) (.bool false)).setCell (p := ⟨w.heap.size + 1, 1, none⟩) (.inr (by simp)) (.int .i64 0))
    clear q0 q1 p0 p1
    generalize ((w8.setCell ⟨w.heap.size + 1, 0, none⟩ (.bool false)).setCell ⟨w.heap.size + 1, 1, none⟩ (.int .i64 0)) = wz at zz FF ⊢
    obtain ⟨s0, s1⟩ := cells2 zz
    refine bodyPost_ret (v := .tuple #[evPL ⟨false, 0⟩, .bool false]) (by simp [results, Try.results17, go_sem, evPL, s0, s1]) rfl ?_
    exact ⟨rfl, FF.out⟩
  | some q =>
    obtain ⟨b, e⟩ := q
    simp only [Option.map_some] at lk
    go_quiet (fail)
    generalize hw8 : World.drewN _ _ = w8
    have B8 := Lib.hid (show w8.heap[w.heap.size + 1]? = some (.cells #[.bool false, .int .i64 0] 46 (0, 0)) by rw [← hw8]; exact B2.out)
    have F8 := Lib.hid (show Fr No w w8 by rw [← hw8]; exact F2.out.drewN _)
    have H8 := Lib.hid (show Fd w8 tb mb room life L by rw [← hw8]; exact H2.out.no ((Fr.refl _ _).drewN _))
    clear hw8 c0 c1 c2 c3 c4 c5 k0 k1 k2 lk B2 F2 H2
    have hq := mget_some HG.out
    have HE := Lib.hid (H8.out.ent _ hq)
    have HK := Lib.hid (H8.out.ok _ hq)
    simp only at HE HK
    obtain ⟨r, hr⟩ : ∃ r, oldE life e now = r := ⟨_, rfl⟩
    have HR := Lib.hid hr
    clear hq hr
    go_wp2_with fail
    refine (fbOld_any H8.out.box HE.out HK.out hn0 hn1 HR.out).mono ?_
    rintro e' w9 ⟨rfl, j, rfl⟩
    generalize hw9 : World.drewN _ _ = w9
    have HE9 := Lib.hid (show EnAt w9 b e by rw [← hw9]; exact HE.out)
    have B9 := Lib.hid (show w9.heap[w.heap.size + 1]? = some (.cells #[.bool false, .int .i64 0] 46 (0, 0)) by rw [← hw9]; exact B8.out)
    have F9 := Lib.hid (show Fr No w w9 by rw [← hw9]; exact F8.out.drewN _)
    clear hw9 HE B8 F8 H8
    obtain ⟨-, -, -, -, -, -, c6, c7, -, -⟩ := HE9.out.cells
    obtain ⟨q0, q1⟩ := cells2 B9.out
    obtain ⟨p0, p1⟩ := free2 B9.out
    cases r
    · go_wp2_with fail
      have zz := set2 B9.out (.bool e.tun) (.int .i64 e.n)
      have FF := Lib.hid ((F9.out.setCell (p := ⟨w.heap.size + 1, 0, none⟩) (.inr (by simp)) (.bool e.tun)).setCell (p := ⟨w.heap.size + 1, 1, none⟩) (.inr (by simp)) (.int .i64 e.n))
      clear q0 q1 p0 p1
      generalize ((w9.setCell ⟨w.heap.size + 1, 0, none⟩ (.bool e.tun)).setCell ⟨w.heap.size + 1, 1, none⟩ (.int .i64 e.n)) = wz at zz FF ⊢
      obtain ⟨s0, s1⟩ := cells2 zz
      refine bodyPost_ret (v := .tuple #[evPL ⟨e.tun, e.n⟩, .bool true]) (by simp [results, Try.results17, go_sem, evPL, s0, s1]) rfl ?_
      refine ⟨?_, FF.out⟩
      have hz := HO.out
      simp only [Option.bind_some, HR.out, Bool.false_eq_true, if_false] at hz
      rw [← hz]
      rfl
    · go_wp2_with fail
      have zz := set2 B9.out (.bool false) (.int .i64 0)
      have FF := Lib.hid ((F9.out.setCell (p := ⟨w.heap.size + 1, 0, none⟩) (.inr (by simp)) (.bool false)).setCell (p := ⟨w.heap.size + 1, 1, none⟩) (.inr (by simp)) (.int .i64 0))
      clear q0 q1 p0 p1
      generalize ((w9.setCell ⟨w.heap.size + 1, 0, none⟩ (.bool false)).setCell ⟨w.heap.size + 1, 1, none⟩ (.int .i64 0)) = wz at zz FF ⊢
      obtain ⟨s0, s1⟩ := cells2 zz
      refine bodyPost_ret (v := .tuple #[evPL ⟨false, 0⟩, .bool false]) (by simp [results, Try.results17, go_sem, evPL, s0, s1]) rfl ?_
      refine ⟨?_, FF.out⟩
      have hz := HO.out
      simp only [Option.bind_some, HR.out, if_true] at hz
      rw [← hz]
      rfl
end Go.Proofs.Yticebdoiahadoaa

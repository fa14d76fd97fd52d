/- fdb: drop, Forget, Drop, Tick. -/
import Derived.Test.YticebdoiahadoaaFd6
import Derived.Laws.StructEq
namespace Go.Proofs.Yticebdoiahadoaa
open Go.RowKit
set_option linter.unusedVariables false
set_option linter.unusedSimpArgs false

theorem Fd.filter {w w' : World} {tb mb : Nat} {room life : Int} {L : FL} (h : Fd w tb mb room life L) (q : Mac × Nat × En → Bool) (hm : Mp okM evM evP w' mb ((L.filter q).map pr)) (hf : Fr (Is mb) w w') : Fd w' tb mb room life (L.filter q) := by
  have hne : ∀ p ∈ L, p.2.1 ≠ mb := by
    intro p hp e
    obtain ⟨es, c, hm, -⟩ := h.mp.ex
    have := h.ent p hp
    unfold EnAt at this
    rw [e, hm] at this; cases this
  have hnt : tb ≠ mb := by
    intro e
    obtain ⟨es, c, hm, -⟩ := h.mp.ex
    have := h.box
    rw [e, hm] at this; cases this
  exact ⟨hf.heap h.box (fun e => hnt e), hm, fun p hp => hf.heap (h.ent p (List.mem_filter.1 hp).1) (fun e => hne p (List.mem_filter.1 hp).1 e), fun p hp => h.key p (List.mem_filter.1 hp).1, fun p hp => h.ok p (List.mem_filter.1 hp).1,
    (List.filter_sublist.map _).nodup h.dis, Nat.le_trans (List.length_filter_le _ _) h.len, h.lif, h.rom, by have h1 := List.length_filter_le q L; have h2 := h.lr; omega⟩

set_option maxRecDepth 100000 in
set_option maxHeartbeats 2000000 in
theorem fbLet_any {w : World} {tb mb : Nat} {room life : Int} {L : FL} (h : Fd w tb mb room life L) {fk : Nat} {caps : Array Value} {Pd : En → Bool} (hl : Looks w mb fk caps Pd)
    (eg : ∀ args w, (callFunc fk args).run Try.prog w = .ok (.enter fk args) w) :
    Calls Try.prog 52 #[.pointer (some ⟨tb, 0, none⟩), .func (.func fk) #[] caps] w (LetP w tb mb room life L Pd) := by
  have H := Lib.hid h
  have HL := Lib.hid hl
  obtain ⟨k0, k1, k2⟩ := h.cells
  have hlt := lt_of_heap h.box
  have hll := h.len
  clear h hl
  go_enter Try.func52, Try.ntmps52
  have F1 := Lib.hid ((Fr.refl No w).alloc (.cells #[.func (.func fk) #[] caps] 104))
  have H1 := Lib.hid (H.out.no F1.out)
  have LN := H1.out.mp.len (P := Try.prog) Try.underlying87 3
  rw [List.length_map] at LN
  go_wp2_with fail
  have B1 := Lib.hid (heap_alloc_new w (.cells #[.func (.func fk) #[] caps] 104))
  have HL1 := Lib.hid (show Looks (w.alloc (.cells #[.func (.func fk) #[] caps] 104)) mb fk caps Pd from fun W hW b e he hok => HL.out W (F1.out.of_no.trans hW) b e he hok)
  refine (fbMapDel_any H1.out B1.out HL1.out eg).mono ?_
  rintro e w3 ⟨⟨v, rfl⟩, hm3, hf3⟩
  have F3 := Lib.hid (F1.out.of_no.trans hf3)
  have H3 := Lib.hid (H1.out.filter _ hm3 hf3)
  have hlf : (L.filter fun p => !(Pd p.2.2)).length ≤ L.length := List.length_filter_le _ _
  have LN3 := H3.out.mp.len (P := Try.prog) Try.underlying87 3
  rw [List.length_map] at LN3
  obtain ⟨j0, j1, j2⟩ := H3.out.cells
  obtain ⟨n3, hn3⟩ : ∃ n, (L.filter fun p => !(Pd p.2.2)).length = n := ⟨_, rfl⟩
  rw [hn3] at LN3 hlf
  have HN3 := Lib.hid hn3
  clear LN k0 k1 k2 hm3 hf3 B1 HL1 H1 hn3
  go_wp2_with fail
  go_ret
  refine ⟨?_, H3.out, F3.out⟩
  rw [HN3.out]
  rfl

end Go.Proofs.Yticebdoiahadoaa

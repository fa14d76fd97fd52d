/- fdb: drop, Forget, Drop, Tick. -/
import Derived.Test.YtgmaelndhmnjiaaDoorFd6
import Derived.Laws.StructEq
namespace Go.Proofs.YtgmaelndhmnjiaaDoor
open Go.RowKit
set_option linter.unusedVariables false
set_option linter.unusedSimpArgs false

theorem Fd.filter {w w' : World} {tb mb : Nat} {room life : Int} {L : FL} (h : Fd w tb mb room life L) (q : Mac × Nat × En → Bool) (hm : Mp okM evM evP w' mb ((L.filter q).map pr)) (hf : Fr (Is mb) w w') : Fd w' tb mb room life (L.filter q) := by
  have hne : ∀ p ∈ L, p.2.1 ≠ mb := by
    intro p hp e
    obtain ⟨es, c, hm, -⟩ := h.mp.ex
    have := h.ent p hp
    unfold EnAt at this
    rw [e, hm] at this; cases this
  have hnt : tb ≠ mb := by
    intro e
    obtain ⟨es, c, hm, -⟩ := h.mp.ex
    have := h.box
    rw [e, hm] at this; cases this
  exact ⟨hf.heap h.box (fun e => hnt e), hm, fun p hp => hf.heap (h.ent p (List.mem_filter.1 hp).1) (fun e => hne p (List.mem_filter.1 hp).1 e), fun p hp => h.key p (List.mem_filter.1 hp).1, fun p hp => h.ok p (List.mem_filter.1 hp).1,
    (List.filter_sublist.map _).nodup h.dis, Nat.le_trans (List.length_filter_le _ _) h.len, h.lif, h.rom, by have h1 := List.length_filter_le q L; have h2 := h.lr; omega⟩

set_option maxRecDepth 100000 in
set_option maxHeartbeats 2000000 in
theorem fbLet_any {w : World} {tb mb : Nat} {room life : Int} {L : FL} (h : Fd w tb mb room life L) {fk : Nat} {caps : Array Value} {Pd : En → Bool} (hl : Looks w mb fk caps Pd)
    (eg : ∀ args w, (callFunc fk args).run Tryd.prog w = .ok (.enter fk args) w) :
    Calls Tryd.prog 33 #[.pointer (some ⟨tb, 0, none⟩), .func (.func fk) #[] caps] w (LetP w tb mb room life L Pd) := by
  have H := Lib.hid h
  have HL := Lib.hid hl
  obtain ⟨k0, k1, k2⟩ := h.cells
  have hlt := lt_of_heap h.box
  have hll := h.len
  clear h hl
  go_enter Tryd.func33, Tryd.ntmps33
  have F1 := Lib.hid ((Fr.refl No w).alloc (.cells #[.func (.func fk) #[] caps] 78))
  have H1 := Lib.hid (H.out.no F1.out)
  have LN := H1.out.mp.len (P := Tryd.prog) Tryd.underlying67 3
  rw [List.length_map] at LN
  go_wp2_with fail
  have B1 := Lib.hid (heap_alloc_new w (.cells #[.func (.func fk) #[] caps] 78))
  have HL1 := Lib.hid (show Looks (w.alloc (.cells #[.func (.func fk) #[] caps] 78)) mb fk caps Pd from fun W hW b e he hok => HL.out W (F1.out.of_no.trans hW) b e he hok)
  refine (fbMapDel_any H1.out B1.out HL1.out eg).mono ?_
  rintro e w3 ⟨⟨v, rfl⟩, hm3, hf3⟩
  have F3 := Lib.hid (F1.out.of_no.trans hf3)
  have H3 := Lib.hid (H1.out.filter _ hm3 hf3)
  have hlf : (L.filter fun p => !(Pd p.2.2)).length ≤ L.length := List.length_filter_le _ _
  have LN3 := H3.out.mp.len (P := Tryd.prog) Tryd.underlying67 3
  rw [List.length_map] at LN3
  obtain ⟨j0, j1, j2⟩ := H3.out.cells
  obtain ⟨n3, hn3⟩ : ∃ n, (L.filter fun p => !(Pd p.2.2)).length = n := ⟨_, rfl⟩
  rw [hn3] at LN3 hlf
  have HN3 := Lib.hid hn3
  clear LN k0 k1 k2 hm3 hf3 B1 HL1 H1 hn3
  go_wp2_with fail
  go_ret
  refine ⟨?_, H3.out, F3.out⟩
  rw [HN3.out]
  rfl

set_option maxRecDepth 100000 in
set_option maxHeartbeats 2000000 in
theorem fbTickF_any {W : World} {tb mb b p1 p2 : Nat} {room life now : Int} {e : En} (h0 : W.heap[tb]? = some (.cells #[.int .i64 room, .int .u64 life, .map (some mb)] 69 (0, 0))) (he : EnAt W b e) (hok : e.ok)
    (hp1 : W.heap[p1]? = some (.cells #[.pointer (some ⟨tb, 0, none⟩)] 23 (0, 0))) (hp2 : W.heap[p2]? = some (.cells #[.int .u64 now] 25 (0, 0))) (hn0 : 0 ≤ now) (hn1 : now < 18446744073709551616) {r : Bool} (hr : oldE life e now = r) :
    Calls Tryd.prog 34 #[evP b, .pointer (some ⟨p1, 0, none⟩), .pointer (some ⟨p2, 0, none⟩)] W fun e' W' => e' = .returned (.bool r) ∧ Fr No W W' := by
  have k1 := cell_box hp1
  have k2 := cell_box hp2
  have HO := Lib.hid (fbOld_any h0 he hok hn0 hn1 hr)
  clear h0 he hp1 hp2
  unfold evP
  go_enter Tryd.func34, Tryd.ntmps34
  go_wp2_with fail
  refine HO.out.mono ?_
  rintro e w3 ⟨rfl, m, rfl⟩
  go_wp2
  go_ret
  exact ⟨rfl, (Fr.refl No W).drewN m⟩
set_option maxRecDepth 100000 in
set_option maxHeartbeats 2000000 in
theorem fbTick_any {w : World} {tb mb : Nat} {room life : Int} {L : FL} (h : Fd w tb mb room life L) {now : Int} (hn0 : 0 ≤ now) (hn1 : now < 18446744073709551616) :
    Calls Tryd.prog 14 #[.pointer (some ⟨tb, 0, none⟩), .int .u64 now] w (LetP w tb mb room life L fun e => oldE life e now) := by
  have H := Lib.hid h
  have hlt := lt_of_heap h.box
  have hlm := h.mp.lt
  have hne : tb ≠ mb := by
    intro e
    obtain ⟨es, c, hm, -⟩ := h.mp.ex
    have := h.box
    rw [e, hm] at this; cases this
  clear h
  go_enter Tryd.func14, Tryd.ntmps14
  go_wp2_with fail
  have f2 := ((Fr.refl No w).alloc (.cells #[.pointer (some ⟨tb, 0, none⟩)] 23)).alloc (.cells #[.int .u64 now] 25)
  have b1 := ((Fr.refl No _).alloc (.cells #[.int .u64 now] 25)).heap (heap_alloc_new w (.cells #[.pointer (some ⟨tb, 0, none⟩)] 23)) (fun h => h)
  have b2 := heap_alloc_new (w.alloc (.cells #[.pointer (some ⟨tb, 0, none⟩)] 23)) (.cells #[.int .u64 now] 25)
  rw [show (w.alloc (.cells #[.pointer (some ⟨tb, 0, none⟩)] 23)).heap.size = w.heap.size + 1 from by simp] at b2
  have H2 := Lib.hid (H.out.no f2)
  have F2 := Lib.hid f2
  clear f2
  generalize (w.alloc (.cells #[.pointer (some ⟨tb, 0, none⟩)] 23)).alloc (.cells #[.int .u64 now] 25) = w2 at b1 b2 H2 F2 ⊢
  have hlk : Looks w2 mb 34 #[.pointer (some ⟨w.heap.size, 0, none⟩), .pointer (some ⟨w.heap.size + 1, 0, none⟩)] (fun e => oldE life e now) := by
    intro W hW b e he hok
    exact fbTickF_any (hW.heap H2.out.box (fun h => hne h)) he hok (hW.heap b1 (fun h : _ = _ => by omega)) (hW.heap b2 (fun h : _ = _ => by omega)) hn0 hn1 rfl
  have HLK := Lib.hid hlk
  clear b1 b2 hlk
  refine (fbLet_any H2.out HLK.out (enters_of Tryd.func34 (by kernel_rfl) rfl)).mono ?_
  rintro e w3 ⟨rfl, h3, f3⟩
  have H3 := Lib.hid h3
  have F3 := Lib.hid (F2.out.of_no.trans f3)
  clear h3 f3
  go_wp2_with fail
  go_ret
  exact ⟨rfl, H3.out, F3.out⟩
end Go.Proofs.YtgmaelndhmnjiaaDoor

/- fdb: New, Find, Forget, Drop. -/
import Derived.Test.YtgmaelndhmnjiaaDoorFd8
namespace Go.Proofs.YtgmaelndhmnjiaaDoor
open Go.RowKit
set_option linter.unusedVariables false
set_option linter.unusedSimpArgs false

theorem Fd.tne {w : World} {tb mb : Nat} {room life : Int} {L : FL} (h : Fd w tb mb room life L) : tb ≠ mb := by
  intro e
  obtain ⟨es, c, hm, -⟩ := h.mp.ex
  have := h.box
  rw [e, hm] at this; cases this
theorem Fd.bne {w : World} {tb mb : Nat} {room life : Int} {L : FL} (h : Fd w tb mb room life L) : ∀ p ∈ L, p.2.1 ≠ mb := by
  intro p hp e
  obtain ⟨es, c, hm, -⟩ := h.mp.ex
  have := h.ent p hp
  unfold EnAt at this
  rw [e, hm] at this; cases this
theorem Fd.btn {w : World} {tb mb : Nat} {room life : Int} {L : FL} (h : Fd w tb mb room life L) : ∀ p ∈ L, p.2.1 ≠ tb := by
  intro p hp e
  have h1 := h.ent p hp
  unfold EnAt at h1
  rw [e, h.box] at h1; cases h1

set_option maxRecDepth 100000 in
set_option maxHeartbeats 2000000 in
theorem fbForget_any {w : World} {tb mb : Nat} {room life : Int} {L : FL} (h : Fd w tb mb room life L) (p : Pl) :
    Calls Tryd.prog 20 #[.pointer (some ⟨tb, 0, none⟩), evPL p] w (LetP w tb mb room life L fun e => decide (e.pl = p)) := by
  have H := Lib.hid h
  have hlm := h.mp.lt
  clear h
  obtain ⟨pt, pn⟩ := p
  unfold evPL
  simp only
  go_enter Tryd.func20, Tryd.ntmps20
  go_wp2_with fail
  have f2 := (Fr.refl No w).alloc (.cells #[.bool pt, .int .i64 pn] 33)
  have b1 := heap_alloc_new w (.cells #[.bool pt, .int .i64 pn] 33)
  have H2 := Lib.hid (H.out.no f2)
  have F2 := Lib.hid f2
  clear f2
  generalize w.alloc (.cells #[.bool pt, .int .i64 pn] 33) = w2 at b1 H2 F2 ⊢
  have hlk : Looks w2 mb 37 #[.pointer (some ⟨w.heap.size, 0, none⟩)] (fun e => decide (e.pl = ⟨pt, pn⟩)) := by
    intro W hW b e he hok
    exact fbForgetF_any (p := ⟨pt, pn⟩) he (hW.heap b1 (fun h : _ = _ => by omega)) rfl
  have HLK := Lib.hid hlk
  clear b1 hlk
  refine (fbLet_any H2.out HLK.out (enters_of Tryd.func37 (by kernel_rfl) rfl)).mono ?_
  rintro e w3 ⟨rfl, h3, f3⟩
  have H3 := Lib.hid h3
  have F3 := Lib.hid (F2.out.of_no.trans f3)
  clear h3 f3
  go_wp2_with fail
  go_ret
  exact ⟨rfl, H3.out, F3.out⟩

/-- Drop: is there one? It goes. -/
def DropP (w : World) (tb mb : Nat) (room life : Int) (L : FL) (m : Mac) (e : Ending) (w' : World) : Prop :=
  e = .returned (.bool (mget L m).isSome) ∧ Fd w' tb mb room life (mdel L m) ∧ Fr (Is mb) w w'
theorem drop_list {L : FL} (hk : ∀ p ∈ L, p.2.2.mac = p.1) (m : Mac) : (L.filter fun p => !(decide (p.2.2.mac = m))) = mdel L m := by
  unfold mdel
  apply List.filter_congr
  intro p hp
  rw [hk p hp]
  simp
set_option maxRecDepth 100000 in
set_option maxHeartbeats 2000000 in
theorem fbDrop_any {w : World} {tb mb : Nat} {room life : Int} {L : FL} (h : Fd w tb mb room life L) (m : Mac) :
    Calls Tryd.prog 22 #[.pointer (some ⟨tb, 0, none⟩), evM m] w (DropP w tb mb room life L m) := by
  have H := Lib.hid h
  have hlm := h.mp.lt
  have hlen := mdel_length (l := L) (by have := h.mp.nd; rw [List.map_map] at this; exact this) m
  have hdl := drop_list h.key m
  obtain ⟨nL, hnL⟩ : ∃ n, L.length = n := ⟨_, rfl⟩
  have hnl := h.len
  rw [hnL] at hlen hnl
  clear h
  have hcs : ∃ (g : Bool) (n2 : Nat), (mget L m).isSome = g ∧ (mdel L m).length = n2 ∧ decide ((0 : Int) < (nL : Int) - (n2 : Int)) = g := by
    refine ⟨_, _, rfl, rfl, ?_⟩
    rw [hlen]
    cases hg : mget L m with
    | none => simp
    | some v =>
      have : 0 < nL := by rw [← hnL]; exact List.length_pos_of_mem (mget_some hg)
      simp; omega
  obtain ⟨g, n2, hg, hn2, hgt⟩ := hcs
  have HG := Lib.hid hg
  have HN := Lib.hid hnL
  have HN2 := Lib.hid hn2
  have HDL := Lib.hid hdl
  have hn2l : n2 ≤ nL := by rw [← hn2, ← hnL]; exact mdel_length_le _ _
  clear hg hn2 hnL hlen hdl
  unfold evM
  go_enter Tryd.func22, Tryd.ntmps22
  go_wp2_with fail
  have f2 := (Fr.refl No w).alloc (.cells #[byteV m.a, byteV m.b, byteV m.c, byteV m.d, byteV m.e, byteV m.f] 31)
  have b1 := heap_alloc_new w (.cells #[byteV m.a, byteV m.b, byteV m.c, byteV m.d, byteV m.e, byteV m.f] 31)
  have H2 := Lib.hid (H.out.no f2)
  have F2 := Lib.hid f2
  clear f2
  generalize w.alloc (.cells #[byteV m.a, byteV m.b, byteV m.c, byteV m.d, byteV m.e, byteV m.f] 31) = w2 at b1 H2 F2 ⊢
  have hlk : Looks w2 mb 39 #[.pointer (some ⟨w.heap.size, 0, none⟩)] (fun e => decide (e.mac = m)) := by
    intro W hW b e he hok
    exact fbDropF_any he (hW.heap b1 (fun h : _ = _ => by omega)) rfl
  have HLK := Lib.hid hlk
  clear b1 hlk
  refine (fbLet_any H2.out HLK.out (enters_of Tryd.func39 (by kernel_rfl) rfl)).mono ?_
  unfold LetP
  rw [HDL.out, HN.out, HN2.out]
  rintro e w3 ⟨rfl, h3, f3⟩
  have H3 := Lib.hid h3
  have F3 := Lib.hid (F2.out.of_no.trans f3)
  clear h3 f3
  go_wp2_with fail
  go_ret
  refine ⟨?_, H3.out, F3.out⟩
  have e : decide (n2 < nL) = g := by rw [← hgt]; exact decide_eq_decide.2 (by omega)
  rw [HG.out, ← e]
  rfl


set_option maxRecDepth 100000 in
theorem fbNew_any (w : World) (room life : Int) (hl0 : 0 ≤ life) (hl1 : life < 18446744073709551616) :
    Calls Tryd.prog 9 #[.int .i64 room, .int .u64 life] w fun e w' => e = .returned (.pointer (some ⟨w.heap.size + 1, 0, none⟩)) ∧ Fd w' (w.heap.size + 1) w.heap.size (min (max room 1) 64) life [] ∧ Fr No w w' := by
  have hmm := @run_makeMap Tryd.prog
  go_enter Tryd.func9, Tryd.ntmps9
  go_wp2_with fail
  go_ret
  have h1 : (w.alloc (.map #[] 0)).heap.size = w.heap.size + 1 := by simp
  refine ⟨rfl, ⟨?_, (Mp.made w).no ((Fr.refl _ _).alloc _), fun p hp => (by cases hp), fun p hp => (by cases hp), fun p hp => (by cases hp), (by simp), (by simp), ⟨hl0, hl1⟩, by omega, by simp; omega⟩, ((Fr.refl _ _).alloc _).alloc _⟩
  rw [← h1]; exact heap_alloc_new _ _
end Go.Proofs.YtgmaelndhmnjiaaDoor

/- fdb: New, Find, Forget, Drop. -/
import Derived.Test.YticebdoiahadoaaFd8
namespace Go.Proofs.Yticebdoiahadoaa
open Go.RowKit
set_option linter.unusedVariables false
set_option linter.unusedSimpArgs false

theorem Fd.tne {w : World} {tb mb : Nat} {room life : Int} {L : FL} (h : Fd w tb mb room life L) : tb ≠ mb := by
  intro e
  obtain ⟨es, c, hm, -⟩ := h.mp.ex
  have := h.box
  rw [e, hm] at this; cases this
theorem Fd.bne {w : World} {tb mb : Nat} {room life : Int} {L : FL} (h : Fd w tb mb room life L) : ∀ p ∈ L, p.2.1 ≠ mb := by
  intro p hp e
  obtain ⟨es, c, hm, -⟩ := h.mp.ex
  have := h.ent p hp
  unfold EnAt at this
  rw [e, hm] at this; cases this
theorem Fd.btn {w : World} {tb mb : Nat} {room life : Int} {L : FL} (h : Fd w tb mb room life L) : ∀ p ∈ L, p.2.1 ≠ tb := by
  intro p hp e
  have h1 := h.ent p hp
  unfold EnAt at h1
  rw [e, h.box] at h1; cases h1

set_option maxRecDepth 100000 in
set_option maxHeartbeats 2000000 in
theorem fbForget_any {w : World} {tb mb : Nat} {room life : Int} {L : FL} (h : Fd w tb mb room life L) (p : Pl) :
    Calls Try.prog 47 #[.pointer (some ⟨tb, 0, none⟩), evPL p] w (LetP w tb mb room life L fun e => decide (e.pl = p)) := by
  have H := Lib.hid h
  have hlm := h.mp.lt
  clear h
  obtain ⟨pt, pn⟩ := p
  unfold evPL
  simp only
  go_enter Try.func47, Try.ntmps47
  go_wp2_with fail
  have f2 := (Fr.refl No w).alloc (.cells #[.bool pt, .int .i64 pn] 46)
  have b1 := heap_alloc_new w (.cells #[.bool pt, .int .i64 pn] 46)
  have H2 := Lib.hid (H.out.no f2)
  have F2 := Lib.hid f2
  clear f2
  generalize w.alloc (.cells #[.bool pt, .int .i64 pn] 46) = w2 at b1 H2 F2 ⊢
  have hlk : Looks w2 mb 65 #[.pointer (some ⟨w.heap.size, 0, none⟩)] (fun e => decide (e.pl = ⟨pt, pn⟩)) := by
    intro W hW b e he hok
    exact fbForgetF_any (p := ⟨pt, pn⟩) he (hW.heap b1 (fun h : _ = _ => by omega)) rfl
  have HLK := Lib.hid hlk
  clear b1 hlk
  refine (fbLet_any H2.out HLK.out (enters_of Try.func65 (by kernel_rfl) rfl)).mono ?_
  rintro e w3 ⟨rfl, h3, f3⟩
  have H3 := Lib.hid h3
  have F3 := Lib.hid (F2.out.of_no.trans f3)
  clear h3 f3
  go_wp2_with fail
  go_ret
  exact ⟨rfl, H3.out, F3.out⟩

set_option maxRecDepth 100000 in
theorem fbNew_any (w : World) (room life : Int) (hl0 : 0 ≤ life) (hl1 : life < 18446744073709551616) :
    Calls Try.prog 38 #[.int .i64 room, .int .u64 life] w fun e w' => e = .returned (.pointer (some ⟨w.heap.size + 1, 0, none⟩)) ∧ Fd w' (w.heap.size + 1) w.heap.size (min (max room 1) 64) life [] ∧ Fr No w w' := by
  have hmm := @run_makeMap Try.prog
  go_enter Try.func38, Try.ntmps38
  go_wp2_with fail
  go_ret
  have h1 : (w.alloc (.map #[] 0)).heap.size = w.heap.size + 1 := by simp
  refine ⟨rfl, ⟨?_, (Mp.made w).no ((Fr.refl _ _).alloc _), fun p hp => (by cases hp), fun p hp => (by cases hp), fun p hp => (by cases hp), (by simp), (by simp), ⟨hl0, hl1⟩, by omega, by simp; omega⟩, ((Fr.refl _ _).alloc _).alloc _⟩
  rw [← h1]; exact heap_alloc_new _ _
end Go.Proofs.Yticebdoiahadoaa

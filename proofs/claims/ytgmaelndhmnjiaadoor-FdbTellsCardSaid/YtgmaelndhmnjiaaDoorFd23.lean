/- fdb: a step of the statements (does). -/
import Derived.Test.YtgmaelndhmnjiaaDoorFd22
import Derived.Test.YtgmaelndhmnjiaaDoorFdQ
namespace Go.Proofs.YtgmaelndhmnjiaaDoor
open Go.RowKit
set_option linter.unusedVariables false
set_option linter.unusedSimpArgs false

structure Stp where
  kind : Int
  mac : Mac
  pl : Pl
  by_ : UInt8
deriving Inhabited
def encS (x : Stp) : List Value := [.int .i64 x.kind, byteV x.mac.a, byteV x.mac.b, byteV x.mac.c, byteV x.mac.d, byteV x.mac.e, byteV x.mac.f, .bool x.pl.tun, .int .i64 x.pl.n, byteV x.by_]
def evS (x : Stp) : Value := .agg #[.int .i64 x.kind, byteV x.mac.a, byteV x.mac.b, byteV x.mac.c, byteV x.mac.d, byteV x.mac.e, byteV x.mac.f, .bool x.pl.tun, .int .i64 x.pl.n, byteV x.by_]
def Stp.ok (x : Stp) : Prop := -9223372036854775808 ≤ x.pl.n ∧ x.pl.n ≤ 9223372036854775807
def adoes (room life : Int) (A : AL) (x : Stp) (now : Int) : AL :=
  if x.kind = 0 ∨ x.kind = 1 ∨ x.kind = 2 then (alearn room A x.mac x.pl now).2.2
  else if x.kind = 3 then (astatic room A x.mac x.pl).2
  else if x.kind = 4 then aforget A x.pl
  else if x.kind = 5 then adel A x.mac
  else if x.kind = 6 then atick life A now
  else A
def DoesPF (w : World) (tb mb : Nat) (room life : Int) (L : FL) (A' : AL) (e : Ending) (w' : World) : Prop :=
  e = .returned (.tuple #[]) ∧ ∃ L', Fd w' tb mb room life L' ∧ Ab L' A' ∧ Nb w L L' ∧ Fr (FS mb L) w w'
theorem cells10 {w : World} {b : Nat} {c0 c1 c2 c3 c4 c5 c6 c7 c8 c9 : Value} {e : TypeId} {f : Nat × Nat} (h : w.heap[b]? = some (.cells #[c0, c1, c2, c3, c4, c5, c6, c7, c8, c9] e f)) :
    w.cell? ⟨b, 0, none⟩ = some c0 ∧ w.cell? ⟨b, 1, none⟩ = some c1 ∧ w.cell? ⟨b, 2, none⟩ = some c2 ∧ w.cell? ⟨b, 3, none⟩ = some c3 ∧ w.cell? ⟨b, 4, none⟩ = some c4 ∧ w.cell? ⟨b, 5, none⟩ = some c5 ∧
    w.cell? ⟨b, 6, none⟩ = some c6 ∧ w.cell? ⟨b, 7, none⟩ = some c7 ∧ w.cell? ⟨b, 8, none⟩ = some c8 ∧ w.cell? ⟨b, 9, none⟩ = some c9 := by
  refine ⟨?_, ?_, ?_, ?_, ?_, ?_, ?_, ?_, ?_, ?_⟩ <;> (rw [cell_of_row w b _ _ _ _ h]; rfl)

set_option maxRecDepth 100000 in
set_option maxHeartbeats 4000000 in
theorem l15does_any {w : World} {tb mb : Nat} {room life : Int} {L : FL} (h : Fd w tb mb room life L) {A : AL} (ha : Ab L A) (x : Stp) (hx : x.ok) {now : Int} (hn0 : 0 ≤ now) (hn1 : now < 18446744073709551616) {A' : AL} (hA : adoes room life A x now = A') :
    Calls Tryd.prog 27 #[.pointer (some ⟨tb, 0, none⟩), evS x, .int .u64 now] w (DoesPF w tb mb room life L A') := by
  obtain ⟨k, m, ⟨pt, pn⟩, by_⟩ := x
  have H := Lib.hid h
  have HA := Lib.hid ha
  have HX := Lib.hid hx
  have HR := Lib.hid hA
  have hlm := h.mp.lt
  have hlt := lt_of_heap h.box
  have hkey := Lib.hid h.key
  clear h ha hx hA
  have F1 := Lib.hid ((Fr.refl No w).alloc (.cells #[.int .i64 k, byteV m.a, byteV m.b, byteV m.c, byteV m.d, byteV m.e, byteV m.f, .bool pt, .int .i64 pn, byteV by_] 46))
  have H1 := Lib.hid (H.out.no F1.out)
  obtain ⟨c0, c1, c2, c3, c4, c5, c6, c7, c8, c9⟩ := cells10 (heap_alloc_new w (.cells #[.int .i64 k, byteV m.a, byteV m.b, byteV m.c, byteV m.d, byteV m.e, byteV m.f, .bool pt, .int .i64 pn, byteV by_] 46))
  unfold evS
  simp only
  by_cases n0 : k = 0
  · subst n0
    go_enter Tryd.func27, Tryd.ntmps27
    go_wp2_with fail
    refine (fbLearn_any H1.out HA.out m ⟨pt, pn⟩ hn0 hn1 HX.out).mono ?_
    rintro e' w2 ⟨L', rfl, h2, ha2, hn2, f2⟩
    have H2 := Lib.hid h2
    have A2 := Lib.hid ha2
    have N2 := Lib.hid (hn2.le F1.out.size)
    have F2 := Lib.hid (F1.out.of_no.trans f2)
    clear h2 ha2 hn2 f2 c0 c1 c2 c3 c4 c5 c6 c7 c8 c9
    go_wp2_with fail
    go_end0
    exact ⟨rfl, L', H2.out, HR.out ▸ A2.out, N2.out, F2.out⟩
  by_cases n1 : k = 1
  · subst n1
    go_enter Tryd.func27, Tryd.ntmps27
    go_wp2_with fail
    refine (fbLearn_any H1.out HA.out m ⟨pt, pn⟩ hn0 hn1 HX.out).mono ?_
    rintro e' w2 ⟨L', rfl, h2, ha2, hn2, f2⟩
    have H2 := Lib.hid h2
    have A2 := Lib.hid ha2
    have N2 := Lib.hid (hn2.le F1.out.size)
    have F2 := Lib.hid (F1.out.of_no.trans f2)
    clear h2 ha2 hn2 f2 c0 c1 c2 c3 c4 c5 c6 c7 c8 c9
    go_wp2_with fail
    go_end0
    exact ⟨rfl, L', H2.out, HR.out ▸ A2.out, N2.out, F2.out⟩
  by_cases n2 : k = 2
  · subst n2
    go_enter Tryd.func27, Tryd.ntmps27
    go_wp2_with fail
    refine (fbLearn_any H1.out HA.out m ⟨pt, pn⟩ hn0 hn1 HX.out).mono ?_
    rintro e' w2 ⟨L', rfl, h2, ha2, hn2, f2⟩
    have H2 := Lib.hid h2
    have A2 := Lib.hid ha2
    have N2 := Lib.hid (hn2.le F1.out.size)
    have F2 := Lib.hid (F1.out.of_no.trans f2)
    clear h2 ha2 hn2 f2 c0 c1 c2 c3 c4 c5 c6 c7 c8 c9
    go_wp2_with fail
    go_end0
    exact ⟨rfl, L', H2.out, HR.out ▸ A2.out, N2.out, F2.out⟩
  by_cases n3 : k = 3
  · subst n3
    go_enter Tryd.func27, Tryd.ntmps27
    go_wp2_with fail
    refine (fbStatic_any H1.out HA.out m ⟨pt, pn⟩ HX.out).mono ?_
    rintro e' w2 ⟨L', rfl, h2, ha2, hn2, f2⟩
    have H2 := Lib.hid h2
    have A2 := Lib.hid ha2
    have N2 := Lib.hid (hn2.le F1.out.size)
    have F2 := Lib.hid ((F1.out.of_no.trans f2).mono (S' := FS mb L) (fun k _ h => .inl h))
    clear h2 ha2 hn2 f2 c0 c1 c2 c3 c4 c5 c6 c7 c8 c9
    go_wp2_with fail
    go_end0
    exact ⟨rfl, L', H2.out, HR.out ▸ A2.out, N2.out, F2.out⟩
  by_cases n4 : k = 4
  · subst n4
    go_enter Tryd.func27, Tryd.ntmps27
    go_wp2_with fail
    refine (fbForget_any H1.out ⟨pt, pn⟩).mono ?_
    rintro e' w2 ⟨rfl, h2, f2⟩
    have H2 := Lib.hid h2
    have F2 := Lib.hid ((F1.out.of_no.trans f2).mono (S' := FS mb L) (fun k _ h => .inl h))
    clear h2 f2 c0 c1 c2 c3 c4 c5 c6 c7 c8 c9
    go_wp2_with fail
    go_end0
    exact ⟨rfl, _, H2.out, HR.out ▸ HA.out.filter (fun e => !decide (e.pl = ⟨pt, pn⟩)), Nb.sub fun p hp => (List.mem_filter.1 hp).1, F2.out⟩
  by_cases n5 : k = 5
  · subst n5
    go_enter Tryd.func27, Tryd.ntmps27
    go_wp2_with fail
    refine (fbDrop_any H1.out m).mono ?_
    rintro e' w2 ⟨rfl, h2, f2⟩
    have H2 := Lib.hid h2
    have F2 := Lib.hid ((F1.out.of_no.trans f2).mono (S' := FS mb L) (fun k _ h => .inl h))
    clear h2 f2 c0 c1 c2 c3 c4 c5 c6 c7 c8 c9
    go_wp2_with fail
    go_end0
    exact ⟨rfl, _, H2.out, HR.out ▸ HA.out.del hkey.out m, Nb.sub fun p hp => (mem_mdel.1 hp).1, F2.out⟩
  by_cases n6 : k = 6
  · subst n6
    go_enter Tryd.func27, Tryd.ntmps27
    go_wp2_with fail
    refine (fbTick_any H1.out hn0 hn1).mono ?_
    rintro e' w2 ⟨rfl, h2, f2⟩
    have H2 := Lib.hid h2
    have F2 := Lib.hid ((F1.out.of_no.trans f2).mono (S' := FS mb L) (fun k _ h => .inl h))
    clear h2 f2 c0 c1 c2 c3 c4 c5 c6 c7 c8 c9
    go_wp2_with fail
    go_end0
    exact ⟨rfl, _, H2.out, HR.out ▸ HA.out.filter (fun e => !oldE life e now), Nb.sub fun p hp => (List.mem_filter.1 hp).1, F2.out⟩
  have e0 : (k == 0) = false := by simpa using n0
  have e1 : (k == 1) = false := by simpa using n1
  have e2 : (k == 2) = false := by simpa using n2
  have e3 : (k == 3) = false := by simpa using n3
  have e4 : (k == 4) = false := by simpa using n4
  have e5 : (k == 5) = false := by simpa using n5
  have e6 : (k == 6) = false := by simpa using n6
  have hr : adoes room life A ⟨k, m, ⟨pt, pn⟩, by_⟩ now = A := by unfold adoes; simp [n0, n1, n2, n3, n4, n5, n6]
  have HRR := Lib.hid (hr.symm.trans HR.out)
  clear hr
  go_enter Tryd.func27, Tryd.ntmps27
  go_wp2_with fail
  go_end0
  exact ⟨rfl, L, H1.out, HRR.out ▸ HA.out, Nb.sub fun _ h => h, F1.out.of_no⟩
end Go.Proofs.YtgmaelndhmnjiaaDoor

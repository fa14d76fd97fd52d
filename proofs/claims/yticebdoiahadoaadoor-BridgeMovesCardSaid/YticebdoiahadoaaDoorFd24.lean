/- fdb: the contracts with given answers. -/
import Derived.Test.YticebdoiahadoaaDoorFd21
namespace Go.Proofs.YticebdoiahadoaaDoor
open Go.RowKit
set_option linter.unusedVariables false
set_option linter.unusedSimpArgs false
/-- All blocks of the base's entries, and its map, are from B on. -/
def NewL (B mb : Nat) (L : FL) : Prop := B ≤ mb ∧ ∀ p ∈ L, B ≤ p.2.1
theorem NewL.nb {B mb : Nat} {w : World} {L L' : FL} (h : NewL B mb L) (hn : Nb w L L') (hw : B ≤ w.heap.size) : NewL B mb L' :=
  ⟨h.1, fun p hp => by
    rcases hn p hp with ⟨q, hq, e⟩ | h2
    · rw [← e]; exact h.2 q hq
    · omega⟩
theorem NewL.fs {mb : Nat} {w w1 w2 : World} {L : FL} (h : NewL w.heap.size mb L) (f1 : Fr No w w1) (f2 : Fr (FS mb L) w1 w2) : Fr No w w2 :=
  f1.then f2 (fun i hi h3 => by
    rcases h3 with h3 | ⟨p, hp, h3⟩
    · have := h.1; omega
    · have := h.2 p hp; omega)
theorem NewL.is {mb : Nat} {w w1 w2 : World} {L : FL} (h : NewL w.heap.size mb L) (f1 : Fr No w w1) (f2 : Fr (Is mb) w1 w2) : Fr No w w2 :=
  h.fs f1 (f2.mono (fun _ _ h => .inl h))

theorem fbLearn_at {w : World} {tb mb : Nat} {room life : Int} {L : FL} (h : Fd w tb mb room life L) {A : AL} (ha : Ab L A) (m : Mac) (p : Pl) {now : Int} (hn0 : 0 ≤ now) (hn1 : now < 18446744073709551616) (hp : -9223372036854775808 ≤ p.n ∧ p.n ≤ 9223372036854775807)
    {b : Bool} {c : Int} {A' : AL} (hr : alearn room A m p now = (b, c, A')) :
    Calls Tryd.prog 27 #[.pointer (some ⟨tb, 0, none⟩), evM m, evPL p, .int .u64 now] w fun e w' => e = .returned (.tuple #[.bool b, .int .i64 c]) ∧ ∃ L', Fd w' tb mb room life L' ∧ Ab L' A' ∧ Nb w L L' ∧ Fr (FS mb L) w w' := by
  refine (fbLearn_any h ha m p hn0 hn1 hp).mono ?_
  rintro e w' ⟨L', he, h1, h2, h3, h4⟩
  rw [hr] at he h2
  exact ⟨he, L', h1, h2, h3, h4⟩
theorem fbFind_at {w : World} {tb mb : Nat} {room life : Int} {L : FL} (h : Fd w tb mb room life L) {A : AL} (ha : Ab L A) (m : Mac) {now : Int} (hn0 : 0 ≤ now) (hn1 : now < 18446744073709551616) {o : Option Pl} (ho : afind life A m now = o) :
    Calls Tryd.prog 12 #[.pointer (some ⟨tb, 0, none⟩), evM m, .int .u64 now] w (FindPF w o) :=
  fbFind_any h m hn0 hn1 (by rw [ha.find h.key]; exact ho)
theorem fbForget_at {w : World} {tb mb : Nat} {room life : Int} {L : FL} (h : Fd w tb mb room life L) {A : AL} (ha : Ab L A) (p : Pl) {c : Int} (hc : (A.length : Int) - ((aforget A p).length : Int) = c) :
    Calls Tryd.prog 21 #[.pointer (some ⟨tb, 0, none⟩), evPL p] w fun e w' => e = .returned (.int .i64 c) ∧ ∃ L', Fd w' tb mb room life L' ∧ Ab L' (aforget A p) ∧ Nb w L L' ∧ Fr (Is mb) w w' := by
  refine (fbForget_any h p).mono ?_
  rintro e w' ⟨he, h1, h2⟩
  have h3 := ha.filter (fun e => !decide (e.pl = p))
  refine ⟨?_, _, h1, h3, Nb.sub fun p hp => (List.mem_filter.1 hp).1, h2⟩
  rw [he, ← hc, ha.len, ← h3.len]
  rfl
end Go.Proofs.YticebdoiahadoaaDoor
/- fdb: Static and Drop with given answers. -/
import Derived.Test.YtgmaelndhmnjiaaDoorFd22
import Derived.Test.YtgmaelndhmnjiaaDoorFdQ
import Derived.Test.YtgmaelndhmnjiaaDoorFd24
namespace Go.Proofs.YtgmaelndhmnjiaaDoor
open Go.RowKit
set_option linter.unusedVariables false
set_option linter.unusedSimpArgs false

theorem fbStatic_at {w : World} {tb mb : Nat} {room life : Int} {L : FL} (h : Fd w tb mb room life L) {A : AL} (ha : Ab L A) (m : Mac) (p : Pl) (hp : -9223372036854775808 ≤ p.n ∧ p.n ≤ 9223372036854775807)
    {c : Int} {A' : AL} (hr : astatic room A m p = (c, A')) :
    Calls Tryd.prog 18 #[.pointer (some ⟨tb, 0, none⟩), evM m, evPL p] w fun e w' => e = .returned (.int .i64 c) ∧ ∃ L', Fd w' tb mb room life L' ∧ Ab L' A' ∧ Nb w L L' ∧ Fr (Is mb) w w' := by
  refine (fbStatic_any h ha m p hp).mono ?_
  rintro e w' ⟨L', he, h1, h2, h3, h4⟩
  rw [hr] at he h2
  exact ⟨he, L', h1, h2, h3, h4⟩
theorem fbDrop_at {w : World} {tb mb : Nat} {room life : Int} {L : FL} (h : Fd w tb mb room life L) {A : AL} (ha : Ab L A) (m : Mac) {b : Bool} (hb : (aget A m).isSome = b) :
    Calls Tryd.prog 22 #[.pointer (some ⟨tb, 0, none⟩), evM m] w fun e w' => e = .returned (.bool b) ∧ ∃ L', Fd w' tb mb room life L' ∧ Ab L' (adel A m) ∧ Nb w L L' ∧ Fr (Is mb) w w' := by
  refine (fbDrop_any h m).mono ?_
  rintro e w' ⟨he, h1, h2⟩
  refine ⟨?_, _, h1, ha.del h.key m, Nb.sub fun p hp => (mem_mdel.1 hp).1, h2⟩
  rw [he, ← hb, ha.get h.key, Option.isSome_map]
end Go.Proofs.YtgmaelndhmnjiaaDoor

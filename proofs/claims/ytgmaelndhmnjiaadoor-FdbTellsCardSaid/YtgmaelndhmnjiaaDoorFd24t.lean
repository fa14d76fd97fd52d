/- fdb: Tick with given answers. -/
import Derived.Test.YtgmaelndhmnjiaaDoorFdQ
import Derived.Test.YtgmaelndhmnjiaaDoorFd24
namespace Go.Proofs.YtgmaelndhmnjiaaDoor
open Go.RowKit
set_option linter.unusedVariables false
set_option linter.unusedSimpArgs false

theorem fbTick_at {w : World} {tb mb : Nat} {room life : Int} {L : FL} (h : Fd w tb mb room life L) {A : AL} (ha : Ab L A) {now : Int} (hn0 : 0 ≤ now) (hn1 : now < 18446744073709551616) {c : Int} (hc : (A.length : Int) - ((atick life A now).length : Int) = c) :
    Calls Tryd.prog 14 #[.pointer (some ⟨tb, 0, none⟩), .int .u64 now] w fun e w' => e = .returned (.int .i64 c) ∧ ∃ L', Fd w' tb mb room life L' ∧ Ab L' (atick life A now) ∧ Nb w L L' ∧ Fr (Is mb) w w' := by
  refine (fbTick_any h hn0 hn1).mono ?_
  rintro e w' ⟨he, h1, h2⟩
  have h3 := ha.filter (fun e => !oldE life e now)
  refine ⟨?_, _, h1, h3, Nb.sub fun p hp => (List.mem_filter.1 hp).1, h2⟩
  rw [he, ← hc, ha.len, ← h3.len]
  rfl
end Go.Proofs.YtgmaelndhmnjiaaDoor

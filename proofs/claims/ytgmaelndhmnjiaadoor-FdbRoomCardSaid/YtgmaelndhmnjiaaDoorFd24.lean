/- fdb: the contracts with given answers; shown. -/
import Derived.Test.YtgmaelndhmnjiaaDoorFd23
namespace Go.Proofs.YtgmaelndhmnjiaaDoor
open Go.RowKit
set_option linter.unusedVariables false
set_option linter.unusedSimpArgs false

/-- The variable api.All. -/
def EG (w : World) : Prop := ∀ i, i < 6 → w.cell? ⟨0, i, none⟩ = some (.int .u8 255)
theorem EG.no {w w' : World} (h : EG w) (hf : Fr No w w') : EG w' := fun i hi => hf.cell (h i hi) (fun h => h)
theorem EG.cells {w : World} (h : EG w) : w.cell? ⟨0, 0, none⟩ = some (.int .u8 255) ∧ w.cell? ⟨0, 1, none⟩ = some (.int .u8 255) ∧ w.cell? ⟨0, 2, none⟩ = some (.int .u8 255) ∧ w.cell? ⟨0, 3, none⟩ = some (.int .u8 255) ∧ w.cell? ⟨0, 4, none⟩ = some (.int .u8 255) ∧ w.cell? ⟨0, 5, none⟩ = some (.int .u8 255) :=
  ⟨h 0 (by omega), h 1 (by omega), h 2 (by omega), h 3 (by omega), h 4 (by omega), h 5 (by omega)⟩

/-- All blocks of the base's entries, and its map, are from B on. -/
def NewL (B mb : Nat) (L : FL) : Prop := B ≤ mb ∧ ∀ p ∈ L, B ≤ p.2.1
theorem NewL.nb {B mb : Nat} {w : World} {L L' : FL} (h : NewL B mb L) (hn : Nb w L L') (hw : B ≤ w.heap.size) : NewL B mb L' :=
  ⟨h.1, fun p hp => by
    rcases hn p hp with ⟨q, hq, e⟩ | h2
    · rw [← e]; exact h.2 q hq
    · omega⟩
theorem NewL.fs {mb : Nat} {w w1 w2 : World} {L : FL} (h : NewL w.heap.size mb L) (f1 : Fr No w w1) (f2 : Fr (FS mb L) w1 w2) : Fr No w w2 :=
  f1.then f2 (fun i hi h3 => by
    rcases h3 with h3 | ⟨p, hp, h3⟩
    · have := h.1; omega
    · have := h.2 p hp; omega)
theorem NewL.is {mb : Nat} {w w1 w2 : World} {L : FL} (h : NewL w.heap.size mb L) (f1 : Fr No w w1) (f2 : Fr (Is mb) w1 w2) : Fr No w w2 :=
  h.fs f1 (f2.mono (fun _ _ h => .inl h))

theorem fbLearn_at {w : World} {tb mb : Nat} {room life : Int} {L : FL} (h : Fd w tb mb room life L) {A : AL} (ha : Ab L A) (m : Mac) (p : Pl) {now : Int} (hn0 : 0 ≤ now) (hn1 : now < 18446744073709551616) (hp : -9223372036854775808 ≤ p.n ∧ p.n ≤ 9223372036854775807)
    {b : Bool} {c : Int} {A' : AL} (hr : alearn room A m p now = (b, c, A')) :
    Calls Tryd.prog 10 #[.pointer (some ⟨tb, 0, none⟩), evM m, evPL p, .int .u64 now] w fun e w' => e = .returned (.tuple #[.bool b, .int .i64 c]) ∧ ∃ L', Fd w' tb mb room life L' ∧ Ab L' A' ∧ Nb w L L' ∧ Fr (FS mb L) w w' := by
  refine (fbLearn_any h ha m p hn0 hn1 hp).mono ?_
  rintro e w' ⟨L', he, h1, h2, h3, h4⟩
  rw [hr] at he h2
  exact ⟨he, L', h1, h2, h3, h4⟩
theorem fbStatic_at {w : World} {tb mb : Nat} {room life : Int} {L : FL} (h : Fd w tb mb room life L) {A : AL} (ha : Ab L A) (m : Mac) (p : Pl) (hp : -9223372036854775808 ≤ p.n ∧ p.n ≤ 9223372036854775807)
    {c : Int} {A' : AL} (hr : astatic room A m p = (c, A')) :
    Calls Tryd.prog 18 #[.pointer (some ⟨tb, 0, none⟩), evM m, evPL p] w fun e w' => e = .returned (.int .i64 c) ∧ ∃ L', Fd w' tb mb room life L' ∧ Ab L' A' ∧ Nb w L L' ∧ Fr (Is mb) w w' := by
  refine (fbStatic_any h ha m p hp).mono ?_
  rintro e w' ⟨L', he, h1, h2, h3, h4⟩
  rw [hr] at he h2
  exact ⟨he, L', h1, h2, h3, h4⟩
theorem fbFind_at {w : World} {tb mb : Nat} {room life : Int} {L : FL} (h : Fd w tb mb room life L) {A : AL} (ha : Ab L A) (m : Mac) {now : Int} (hn0 : 0 ≤ now) (hn1 : now < 18446744073709551616) {o : Option Pl} (ho : afind life A m now = o) :
    Calls Tryd.prog 11 #[.pointer (some ⟨tb, 0, none⟩), evM m, .int .u64 now] w (FindPF w o) :=
  fbFind_any h m hn0 hn1 (by rw [ha.find h.key]; exact ho)
theorem fbTick_at {w : World} {tb mb : Nat} {room life : Int} {L : FL} (h : Fd w tb mb room life L) {A : AL} (ha : Ab L A) {now : Int} (hn0 : 0 ≤ now) (hn1 : now < 18446744073709551616) {c : Int} (hc : (A.length : Int) - ((atick life A now).length : Int) = c) :
    Calls Tryd.prog 14 #[.pointer (some ⟨tb, 0, none⟩), .int .u64 now] w fun e w' => e = .returned (.int .i64 c) ∧ ∃ L', Fd w' tb mb room life L' ∧ Ab L' (atick life A now) ∧ Nb w L L' ∧ Fr (Is mb) w w' := by
  refine (fbTick_any h hn0 hn1).mono ?_
  rintro e w' ⟨he, h1, h2⟩
  have h3 := ha.filter (fun e => !oldE life e now)
  refine ⟨?_, _, h1, h3, Nb.sub fun p hp => (List.mem_filter.1 hp).1, h2⟩
  rw [he, ← hc, ha.len, ← h3.len]
  rfl
theorem fbForget_at {w : World} {tb mb : Nat} {room life : Int} {L : FL} (h : Fd w tb mb room life L) {A : AL} (ha : Ab L A) (p : Pl) {c : Int} (hc : (A.length : Int) - ((aforget A p).length : Int) = c) :
    Calls Tryd.prog 20 #[.pointer (some ⟨tb, 0, none⟩), evPL p] w fun e w' => e = .returned (.int .i64 c) ∧ ∃ L', Fd w' tb mb room life L' ∧ Ab L' (aforget A p) ∧ Nb w L L' ∧ Fr (Is mb) w w' := by
  refine (fbForget_any h p).mono ?_
  rintro e w' ⟨he, h1, h2⟩
  have h3 := ha.filter (fun e => !decide (e.pl = p))
  refine ⟨?_, _, h1, h3, Nb.sub fun p hp => (List.mem_filter.1 hp).1, h2⟩
  rw [he, ← hc, ha.len, ← h3.len]
  rfl
theorem fbDrop_at {w : World} {tb mb : Nat} {room life : Int} {L : FL} (h : Fd w tb mb room life L) {A : AL} (ha : Ab L A) (m : Mac) {b : Bool} (hb : (aget A m).isSome = b) :
    Calls Tryd.prog 22 #[.pointer (some ⟨tb, 0, none⟩), evM m] w fun e w' => e = .returned (.bool b) ∧ ∃ L', Fd w' tb mb room life L' ∧ Ab L' (adel A m) ∧ Nb w L L' ∧ Fr (Is mb) w w' := by
  refine (fbDrop_any h m).mono ?_
  rintro e w' ⟨he, h1, h2⟩
  refine ⟨?_, _, h1, ha.del h.key m, Nb.sub fun p hp => (mem_mdel.1 hp).1, h2⟩
  rw [he, ← hb, ha.get h.key, Option.isSome_map]
/-- List, as the row. -/
def ListAt (w : World) (A : AL) (e : Ending) (w' : World) : Prop :=
  ∃ (ao : Option Addr) (cap : Nat), e = .returned (.slice ao A.length cap) ∧ Own w' 60 10 ao A.length cap (A.flatMap encE) ∧ (∀ a, ao = some a → w.heap.size ≤ a.block) ∧ Fr No w w'
theorem fbList_at {w : World} {tb mb : Nat} {room life : Int} {L : FL} (h : Fd w tb mb room life L) {A : AL} (ha : Ab L A) : Calls Tryd.prog 12 #[.pointer (some ⟨tb, 0, none⟩)] w (ListAt w A) := by
  refine (fbList_any h).mono ?_
  rintro e w' ⟨ao, n, cap, xs, rfl, hn, hp, hs, ho, hnew, hf⟩
  have hpa : xs.Perm A := hp.trans ha.perm.symm
  have hx : xs = A := by
    refine Sor.eq ?_ ha.sor hpa
    have nd : (xs.map (·.mac)).Nodup := (hpa.map _).nodup_iff.2 ha.sor.nodup
    rw [List.Nodup, List.pairwise_map] at nd
    exact (hs.and nd).imp (fun ⟨h1, h2⟩ => ltM_total h1 (fun e => h2 e.symm))
  subst hx hn
  exact ⟨ao, cap, rfl, ho, hnew, hf⟩
/-- The cells of a row of entries. -/
theorem own_entry {w : World} {ao : Option Addr} {cap : Nat} {A : AL} (h : Own w 60 10 ao A.length cap (A.flatMap encE)) {i : Nat} {e : En} (hi : A[i]? = some e) : ∃ a, ao = some ⟨a, 0, none⟩ ∧ ∀ j u, (encE e)[j]? = some u → w.cell? ⟨a, i * 10 + j, none⟩ = some u := by
  have hlt : i < A.length := (List.getElem?_eq_some_iff.1 hi).1
  cases ao with
  | none =>
    have h1 := h.nocap rfl
    have h2 := h.le
    omega
  | some a =>
    obtain ⟨ha, -⟩ := h.row a rfl
    obtain ⟨b, o, s⟩ := a
    cases ha
    refine ⟨b, rfl, fun j u hj => ?_⟩
    have hjl : j < 10 := by have := (List.getElem?_eq_some_iff.1 hj).1; simpa [encE] using this
    have h1 : (A.flatMap encE)[i * 10 + j]? = some u := by
      clear h hlt
      induction A generalizing i with
      | nil => cases hi
      | cons x r ih =>
        rw [List.flatMap_cons]
        cases i with
        | zero =>
          simp only [List.getElem?_cons_zero, Option.some.injEq] at hi
          subst hi
          rw [Nat.zero_mul, Nat.zero_add, List.getElem?_append_left (by simpa [encE] using hjl)]
          exact hj
        | succ i =>
          rw [List.getElem?_append_right (by simp [encE]; omega), show (i + 1) * 10 + j - (encE x).length = i * 10 + j by simp [encE]; omega]
          exact ih (by simpa using hi)
    have := h.sl.cell _ rfl _ _ h1
    rwa [Addr.add_lit, Nat.zero_add] at this
end Go.Proofs.YtgmaelndhmnjiaaDoor

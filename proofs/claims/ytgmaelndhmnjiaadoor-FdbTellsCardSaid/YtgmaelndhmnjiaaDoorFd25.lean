/- fdb: a base that is new since B: its operations, in short. -/
import Derived.Test.YtgmaelndhmnjiaaDoorFd24s
import Derived.Test.YtgmaelndhmnjiaaDoorFd24t
import Derived.Test.YtgmaelndhmnjiaaDoorFd24l
import Derived.Test.YtgmaelndhmnjiaaDoorFd23
namespace Go.Proofs.YtgmaelndhmnjiaaDoor
open Go.RowKit
set_option linter.unusedVariables false
set_option linter.unusedSimpArgs false

theorem Fr.upn {a b c : World} (h : Fr No a b) (k : Fr (Up a.heap.size) b c) : Fr No a c := h.then k (fun i hi (h2 : a.heap.size ≤ i) => by omega)
theorem Fr.upb {a b c : World} {B : Nat} (h : Fr No a b) (hB : a.heap.size ≤ B) (k : Fr (Up B) b c) : Fr No a c := h.then k (fun i hi (h2 : B ≤ i) => by omega)
/-- An object of the kinds that a base's operations write. -/
def isFd : Obj → Bool
  | .map _ _ => true
  | .cells _ t _ => t == 60
  | _ => false
/-- All other memory is as it was. -/
def Kp (w w' : World) : Prop := ∀ (k : Nat) (o : Obj), w.heap[k]? = some o → isFd o = false → w'.heap[k]? = some o
theorem Kp.refl (w : World) : Kp w w := fun _ _ h _ => h
theorem Kp.trans {a b c : World} (h : Kp a b) (k : Kp b c) : Kp a c := fun i o hi ho => k i o (h i o hi ho) ho
theorem Kp.of_no {w w' : World} (h : Fr No w w') : Kp w w' := fun k o hk _ => h.heap hk (fun h => h)
theorem Kp.of_fs {w w' : World} {tb mb : Nat} {room life : Int} {L : FL} (h : Fd w tb mb room life L) (hf : Fr (FS mb L) w w') : Kp w w' := by
  intro k o hk ho
  refine hf.heap hk ?_
  rintro (rfl | ⟨p, hp, rfl⟩)
  · obtain ⟨es, c, hm, -⟩ := h.mp.ex
    rw [hm] at hk; cases hk; cases ho
  · have := h.ent p hp
    unfold EnAt at this
    rw [this] at hk; cases hk; cases ho
/-- A base that is new since B. -/
def FdN (B : Nat) (w : World) (tb mb : Nat) (room life : Int) (A : AL) : Prop := ∃ L, Fd w tb mb room life L ∧ Ab L A ∧ NewL B mb L
theorem FdN.no {B : Nat} {w w' : World} {tb mb : Nat} {room life : Int} {A : AL} (h : FdN B w tb mb room life A) (hf : Fr No w w') : FdN B w' tb mb room life A := by
  obtain ⟨L, h1, h2, h3⟩ := h
  exact ⟨L, h1.no hf, h2, h3⟩
theorem FdN.size {B : Nat} {w : World} {tb mb : Nat} {room life : Int} {A : AL} (h : FdN B w tb mb room life A) : B < w.heap.size := by
  obtain ⟨L, h1, h2, h3⟩ := h
  have := h1.mp.lt
  have := h3.1
  omega
theorem FdN.le {B : Nat} {w : World} {tb mb : Nat} {room life : Int} {A : AL} (h : FdN B w tb mb room life A) : (A.length : Int) ≤ room ∧ 1 ≤ room ∧ room ≤ 64 ∧ Sor A ∧ 0 ≤ life ∧ life < 18446744073709551616 := by
  obtain ⟨L, h1, h2, h3⟩ := h
  have := h2.len
  have := h1.lr
  have := h1.rom
  have := h1.lif
  exact ⟨by omega, by omega, by omega, h2.sor, by omega, by omega⟩
theorem FdN.enok {B : Nat} {w : World} {tb mb : Nat} {room life : Int} {A : AL} (h : FdN B w tb mb room life A) : ∀ e ∈ A, e.ok := by
  obtain ⟨L, h1, h2, h3⟩ := h
  intro e he
  obtain ⟨p, hp, rfl⟩ := h2.mem.1 he
  exact h1.ok p hp
theorem FdN.mp {B : Nat} {w : World} {tb mb : Nat} {room life : Int} {A : AL} (h : FdN B w tb mb room life A) : ∃ es c, w.heap[mb]? = some (.map es c) := by
  obtain ⟨L, h1, h2, h3⟩ := h
  obtain ⟨es, c, hm, -⟩ := h1.mp.ex
  exact ⟨es, c, hm⟩
theorem Own.not_map {w : World} {e size n cap : Nat} {ao : Option Addr} {xs : List Value} (h : Own w e size ao n cap xs) {mb : Nat} (hm : ∃ es c, w.heap[mb]? = some (.map es c)) : Out (Is mb) ao := by
  rintro a ha hs
  obtain ⟨h1, cur, h2, -⟩ := h.row a ha
  obtain ⟨es, c, hm⟩ := hm
  rw [show a.block = mb from hs, hm] at h2
  cases h2
/-- What an operation leaves. -/
def Leaves (B : Nat) (w w' : World) (tb mb : Nat) (room life : Int) (A' : AL) : Prop := FdN B w' tb mb room life A' ∧ Fr (Up B) w w' ∧ Kp w w'
theorem NewL.up {B mb : Nat} {L : FL} {w w' : World} (h : NewL B mb L) (hf : Fr (FS mb L) w w') : Fr (Up B) w w' := hf.mono (fun k _ hk => by
  rcases hk with rfl | ⟨p, hp, rfl⟩
  · exact h.1
  · exact h.2 p hp)
theorem NewL.leaves {B mb : Nat} {w w' : World} {tb : Nat} {room life : Int} {L L' : FL} {A' : AL} (hN : NewL B mb L) (h : Fd w tb mb room life L) (hB : B ≤ w.heap.size) (h1 : Fd w' tb mb room life L') (h2 : Ab L' A') (h3 : Nb w L L') (h4 : Fr (FS mb L) w w') : Leaves B w w' tb mb room life A' :=
  ⟨⟨L', h1, h2, hN.nb h3 hB⟩, hN.up h4, Kp.of_fs h h4⟩
theorem Fr.is_fs {mb : Nat} {L : FL} {w w' : World} (h : Fr (Is mb) w w') : Fr (FS mb L) w w' := h.mono (fun _ _ h => .inl h)

variable {B : Nat} {w : World} {tb mb : Nat} {room life : Int} {A : AL}
theorem fbNew_n (w : World) (room life : Int) (hl0 : 0 ≤ life) (hl1 : life < 18446744073709551616) {r : Int} (hr : min (max room 1) 64 = r) :
    Calls Tryd.prog 9 #[.int .i64 room, .int .u64 life] w fun e w' => ∃ tb mb, e = .returned (.pointer (some ⟨tb, 0, none⟩)) ∧ FdN w.heap.size w' tb mb r life [] ∧ Fr No w w' := by
  subst hr
  refine (fbNew_any w room life hl0 hl1).mono ?_
  rintro e w' ⟨he, h, hf⟩
  exact ⟨_, _, he, ⟨[], h, Ab.nil, Nat.le_refl _, fun p hp => by cases hp⟩, hf⟩
theorem fbLearn_n (h : FdN B w tb mb room life A) (m : Mac) (p : Pl) {now : Int} (hn0 : 0 ≤ now) (hn1 : now < 18446744073709551616) (hp : -9223372036854775808 ≤ p.n ∧ p.n ≤ 9223372036854775807)
    {b : Bool} {c : Int} {A' : AL} (hr : alearn room A m p now = (b, c, A')) :
    Calls Tryd.prog 10 #[.pointer (some ⟨tb, 0, none⟩), evM m, evPL p, .int .u64 now] w fun e w' => e = .returned (.tuple #[.bool b, .int .i64 c]) ∧ Leaves B w w' tb mb room life A' := by
  have hs := h.size
  obtain ⟨L, h1, h2, h3⟩ := h
  refine (fbLearn_at h1 h2 m p hn0 hn1 hp hr).mono ?_
  rintro e w' ⟨he, L', g1, g2, g3, g4⟩
  exact ⟨he, h3.leaves h1 (by omega) g1 g2 g3 g4⟩
theorem fbStatic_n (h : FdN B w tb mb room life A) (m : Mac) (p : Pl) (hp : -9223372036854775808 ≤ p.n ∧ p.n ≤ 9223372036854775807) {c : Int} {A' : AL} (hr : astatic room A m p = (c, A')) :
    Calls Tryd.prog 18 #[.pointer (some ⟨tb, 0, none⟩), evM m, evPL p] w fun e w' => e = .returned (.int .i64 c) ∧ Leaves B w w' tb mb room life A' := by
  have hs := h.size
  obtain ⟨L, h1, h2, h3⟩ := h
  refine (fbStatic_at h1 h2 m p hp hr).mono ?_
  rintro e w' ⟨he, L', g1, g2, g3, g4⟩
  exact ⟨he, h3.leaves h1 (by omega) g1 g2 g3 g4.is_fs⟩
theorem fbFind_n (h : FdN B w tb mb room life A) (m : Mac) {now : Int} (hn0 : 0 ≤ now) (hn1 : now < 18446744073709551616) {o : Option Pl} (ho : afind life A m now = o) :
    Calls Tryd.prog 11 #[.pointer (some ⟨tb, 0, none⟩), evM m, .int .u64 now] w fun e w' => e = .returned (.tuple #[evPL (o.getD ⟨false, 0⟩), .bool o.isSome]) ∧ Fr No w w' := by
  obtain ⟨L, h1, h2, h3⟩ := h
  exact fbFind_at h1 h2 m hn0 hn1 ho
theorem fbTick_n (h : FdN B w tb mb room life A) {now : Int} (hn0 : 0 ≤ now) (hn1 : now < 18446744073709551616) {c : Int} (hc : (A.length : Int) - ((atick life A now).length : Int) = c) :
    Calls Tryd.prog 14 #[.pointer (some ⟨tb, 0, none⟩), .int .u64 now] w fun e w' => e = .returned (.int .i64 c) ∧ Leaves B w w' tb mb room life (atick life A now) := by
  have hs := h.size
  obtain ⟨L, h1, h2, h3⟩ := h
  refine (fbTick_at h1 h2 hn0 hn1 hc).mono ?_
  rintro e w' ⟨he, L', g1, g2, g3, g4⟩
  exact ⟨he, h3.leaves h1 (by omega) g1 g2 g3 g4.is_fs⟩
theorem fbForget_n (h : FdN B w tb mb room life A) (p : Pl) {c : Int} (hc : (A.length : Int) - ((aforget A p).length : Int) = c) :
    Calls Tryd.prog 20 #[.pointer (some ⟨tb, 0, none⟩), evPL p] w fun e w' => e = .returned (.int .i64 c) ∧ Leaves B w w' tb mb room life (aforget A p) ∧ Fr (Is mb) w w' := by
  have hs := h.size
  obtain ⟨L, h1, h2, h3⟩ := h
  refine (fbForget_at h1 h2 p hc).mono ?_
  rintro e w' ⟨he, L', g1, g2, g3, g4⟩
  exact ⟨he, h3.leaves h1 (by omega) g1 g2 g3 g4.is_fs, g4⟩
theorem fbDrop_n (h : FdN B w tb mb room life A) (m : Mac) {b : Bool} (hb : (aget A m).isSome = b) :
    Calls Tryd.prog 22 #[.pointer (some ⟨tb, 0, none⟩), evM m] w fun e w' => e = .returned (.bool b) ∧ Leaves B w w' tb mb room life (adel A m) := by
  have hs := h.size
  obtain ⟨L, h1, h2, h3⟩ := h
  refine (fbDrop_at h1 h2 m hb).mono ?_
  rintro e w' ⟨he, L', g1, g2, g3, g4⟩
  exact ⟨he, h3.leaves h1 (by omega) g1 g2 g3 g4.is_fs⟩
theorem fbList_n (h : FdN B w tb mb room life A) : Calls Tryd.prog 12 #[.pointer (some ⟨tb, 0, none⟩)] w (ListAt w A) := by
  obtain ⟨L, h1, h2, h3⟩ := h
  exact fbList_at h1 h2
theorem l15does_n (h : FdN B w tb mb room life A) (x : Stp) (hx : x.ok) {now : Int} (hn0 : 0 ≤ now) (hn1 : now < 18446744073709551616) {A' : AL} (hr : adoes room life A x now = A') :
    Calls Tryd.prog 27 #[.pointer (some ⟨tb, 0, none⟩), evS x, .int .u64 now] w fun e w' => e = .returned (.tuple #[]) ∧ Leaves B w w' tb mb room life A' := by
  have hs := h.size
  obtain ⟨L, h1, h2, h3⟩ := h
  refine (l15does_any h1 h2 x hx hn0 hn1 hr).mono ?_
  rintro e w' ⟨he, L', g1, g2, g3, g4⟩
  exact ⟨he, h3.leaves h1 (by omega) g1 g2 g3 g4⟩
end Go.Proofs.YtgmaelndhmnjiaaDoor

/- bridge laws: a bridge that keeps off some blocks. -/
import Derived.Test.YticebdoiahadoaaBl1
namespace Go.Proofs.Yticebdoiahadoaa
open Go.RowKit
set_option linter.unusedVariables false
set_option linter.unusedSimpArgs false

def BrZ (Z : Nat → Prop) (w : World) (bb : Nat) (room life : Int) (X : AB) : Prop := (∀ k, Z k → k < w.heap.size) ∧ ∃ B : BrM, B.bb = bb ∧ BrAt w room life B X ∧ ∀ i, B.all i → ¬ Z i
def NZ (Z : Nat → Prop) : Nat → Prop := fun k => ¬ Z k
theorem BrZ.no {Z : Nat → Prop} {w w' : World} {bb : Nat} {room life : Int} {X : AB} (h : BrZ Z w bb room life X) (hf : Fr No w w') : BrZ Z w' bb room life X := by
  obtain ⟨h0, B, h1, h2, h3⟩ := h
  exact ⟨fun k hk => Nat.lt_of_lt_of_le (h0 k hk) hf.size, B, h1, h2.no hf, h3⟩
theorem BrZ.less {Z Z' : Nat → Prop} {w : World} {bb : Nat} {room life : Int} {X : AB} (h : BrZ Z w bb room life X) (hz : ∀ k, Z' k → Z k) : BrZ Z' w bb room life X := by
  obtain ⟨h0, B, h1, h2, h3⟩ := h
  exact ⟨fun k hk => h0 k (hz k hk), B, h1, h2, fun i hi hk => h3 i hi (hz i hk)⟩
/-- Behind new blocks: they are off too. -/
theorem BrZ.more {Z : Nat → Prop} {w w' : World} {bb : Nat} {room life : Int} {X : AB} (h : BrZ Z w bb room life X) (hf : Fr No w w') : BrZ (fun k => Z k ∨ (w.heap.size ≤ k ∧ k < w'.heap.size)) w' bb room life X := by
  obtain ⟨h0, B, h1, h2, h3⟩ := h
  refine ⟨fun k hk => ?_, B, h1, h2.no hf, fun i hi hk => ?_⟩
  · rcases hk with hk | hk
    · exact Nat.lt_of_lt_of_le (h0 k hk) hf.size
    · exact hk.2
  · rcases hk with hk | hk
    · exact h3 i hi hk
    · have := h2.lt hi; omega
/-- A write into a block that is off. -/
theorem BrZ.wr {Z : Nat → Prop} {w w' : World} {bb : Nat} {room life : Int} {X : AB} (h : BrZ Z w bb room life X) (hf : Fr Z w w') : BrZ Z w' bb room life X := by
  obtain ⟨h0, B, h1, h2, h3⟩ := h
  exact ⟨fun k hk => Nat.lt_of_lt_of_le (h0 k hk) hf.size, B, h1, h2.fr hf h3, h3⟩
theorem BrZ.out {Z : Nat → Prop} {w w' : World} {B : BrM} {room life : Int} {X' : AB} (h0 : ∀ k, Z k → k < w.heap.size) (h3 : ∀ i, B.all i → ¬ Z i) (h : BrOut w B room life X' w') : BrZ Z w' B.bb room life X' ∧ Fr (NZ Z) w w' := by
  obtain ⟨B', b1, s1, f1⟩ := h
  refine ⟨⟨fun k hk => Nat.lt_of_lt_of_le (h0 k hk) f1.size, B', s1.bb, b1, fun i hi hz => ?_⟩, f1.mono (fun k _ hk => h3 k hk)⟩
  rcases s1.all i hi with h4 | h4
  · exact h3 i h4 hz
  · have := h0 i hz; omega
def OneZ (Z : Nat → Prop) (w : World) (bb : Nat) (room life : Int) (c : Int) (X' : AB) (e : Ending) (w' : World) : Prop := e = .returned (.int .i64 c) ∧ BrZ Z w' bb room life X' ∧ Fr (NZ Z) w w'
theorem bgBind_z {Z : Nat → Prop} {w : World} {bb : Nat} {room life : Int} {X : AB} (h : BrZ Z w bb room life X) {p t : Int} (hp : okI p) {c : Int} {X' : AB} (hr : aBind X p t = (c, X')) :
    Calls Try.prog 21 #[.pointer (some ⟨bb, 0, none⟩), .int .i64 p, .int .i64 t] w (OneZ Z w bb room life c X') := by
  obtain ⟨h0, B, rfl, h2, h3⟩ := h
  exact (bgBind_any h2 hp hr).mono fun e w' hh => ⟨hh.1, BrZ.out h0 h3 hh.2⟩
theorem bgUnbind_z {Z : Nat → Prop} {w : World} {bb : Nat} {room life : Int} {X : AB} (h : BrZ Z w bb room life X) {p : Int} (hp : okI p) {c : Int} {X' : AB} (hr : aUnbind X p = (c, X')) :
    Calls Try.prog 23 #[.pointer (some ⟨bb, 0, none⟩), .int .i64 p] w (OneZ Z w bb room life c X') := by
  obtain ⟨h0, B, rfl, h2, h3⟩ := h
  exact (bgUnbind_any h2 hp hr).mono fun e w' hh => ⟨hh.1, BrZ.out h0 h3 hh.2⟩
theorem bgPeer_z {Z : Nat → Prop} {w : World} {bb : Nat} {room life : Int} {X : AB} (h : BrZ Z w bb room life X) {n t : Int} (ht : okI t) {c : Int} {X' : AB} (hr : aPeer X n t = (c, X')) :
    Calls Try.prog 25 #[.pointer (some ⟨bb, 0, none⟩), .int .i64 n, .int .i64 t] w (OneZ Z w bb room life c X') := by
  obtain ⟨h0, B, rfl, h2, h3⟩ := h
  exact (bgPeer_any h2 ht.2 hr).mono fun e w' hh => ⟨hh.1, BrZ.out h0 h3 hh.2⟩
theorem bgUnpeer_z {Z : Nat → Prop} {w : World} {bb : Nat} {room life : Int} {X : AB} (h : BrZ Z w bb room life X) {n t : Int} {c : Int} {X' : AB} (hr : aUnpeer X n t = (c, X')) :
    Calls Try.prog 27 #[.pointer (some ⟨bb, 0, none⟩), .int .i64 n, .int .i64 t] w (OneZ Z w bb room life c X') := by
  obtain ⟨h0, B, rfl, h2, h3⟩ := h
  exact (bgUnpeer_any h2 hr).mono fun e w' hh => ⟨hh.1, BrZ.out h0 h3 hh.2⟩
/-- Where a frame goes: its rows are off too. -/
def GoesZ (Z : Nat → Prop) (w : World) (bb : Nat) (room life : Int) (r : AOut × Int × AB) (e : Ending) (w' : World) : Prop :=
  ∃ po pc qo qc, e = .returned (.tuple #[.agg #[.slice po r.1.ps.length pc, .slice qo r.1.qs.length qc, .bool r.1.fl], .int .i64 r.2.1]) ∧ OI w' po r.1.ps.length pc r.1.ps ∧ OI w' qo r.1.qs.length qc r.1.qs ∧
    BrZ (fun k => Z k ∨ At po k ∨ At qo k) w' bb room life r.2.2 ∧ Fr (NZ Z) w w'
theorem GoesP.z {Z : Nat → Prop} {w w' : World} {B : BrM} {room life : Int} {r : AOut × Int × AB} {e : Ending} (h0 : ∀ k, Z k → k < w.heap.size) (h3 : ∀ i, B.all i → ¬ Z i) (h : GoesP w B room life r e w') : GoesZ Z w B.bb room life r e w' := by
  obtain ⟨B', po, pc, qo, qc, he, hp, hq, gp, gq, b1, s1, f1⟩ := h
  refine ⟨po, pc, qo, qc, he, hp, hq, ⟨fun k hk => ?_, B', s1.bb, b1, fun i hi hz => ?_⟩, f1.mono (fun k _ hk => h3 k hk)⟩
  · rcases hk with hk | ⟨a, ha, rfl⟩ | ⟨a, ha, rfl⟩
    · exact Nat.lt_of_lt_of_le (h0 k hk) f1.size
    · exact hp.2.lt a ha
    · exact hq.2.lt a ha
  · rcases hz with hz | ⟨a, ha, rfl⟩ | ⟨a, ha, rfl⟩
    · rcases s1.all i hi with h4 | h4
      · exact h3 i h4 hz
      · have := h0 i hz; omega
    · exact (gp a ha).2 hi
    · exact (gq a ha).2 hi
theorem bgFromPort_z {Z : Nat → Prop} {w : World} {bb : Nat} {room life : Int} {X : AB} (h : BrZ Z w bb room life X) {p : Int} (hp : okI p) {ao : Option Addr} {n cap : Nat} {bs : List UInt8} (hb : Bs w ao n cap bs) {now : Int} (hn0 : 0 ≤ now) (hn1 : now < 18446744073709551616) {r : AOut × Int × AB} (hr : aFromPort room life X p bs now = r) :
    Calls Try.prog 15 #[.pointer (some ⟨bb, 0, none⟩), .int .i64 p, .slice ao n cap, .int .u64 now] w (GoesZ Z w bb room life r) := by
  obtain ⟨h0, B, rfl, h2, h3⟩ := h
  exact (bgFromPort_any h2 hp hb hn0 hn1 hr).mono fun e w' hh => hh.z h0 h3
theorem bgFromTunnel_z {Z : Nat → Prop} {w : World} {bb : Nat} {room life : Int} {X : AB} (h : BrZ Z w bb room life X) {i t : Int} (ht : okI t) {ao : Option Addr} {n cap : Nat} {bs : List UInt8} (hb : Bs w ao n cap bs) {now : Int} (hn0 : 0 ≤ now) (hn1 : now < 18446744073709551616) {r : AOut × Int × AB} (hr : aFromTunnel room life X i t bs now = r) :
    Calls Try.prog 31 #[.pointer (some ⟨bb, 0, none⟩), .int .i64 i, .int .i64 t, .slice ao n cap, .int .u64 now] w (GoesZ Z w bb room life r) := by
  obtain ⟨h0, B, rfl, h2, h3⟩ := h
  exact (bgFromTunnel_any h2 ht hb hn0 hn1 hr).mono fun e w' hh => hh.z h0 h3
theorem bgSegment_z {Z : Nat → Prop} {w : World} {bb : Nat} {room life : Int} {X : AB} (h : BrZ Z w bb room life X) {p : Int} (hp : okI p) {i : Int} {b : Bool} (hi : (mget X.bd p).getD 0 = i) (hb : (mget X.bd p).isSome = b) :
    Calls Try.prog 13 #[.pointer (some ⟨bb, 0, none⟩), .int .i64 p] w fun e w' => e = .returned (.tuple #[.int .i64 i, .bool b]) ∧ Fr No w w' := by
  obtain ⟨h0, B, rfl, h2, h3⟩ := h
  subst hi; subst hb
  exact bgSegment_any h2 hp
theorem bgPorts_z {Z : Nat → Prop} {w : World} {bb : Nat} {room life : Int} {X : AB} (h : BrZ Z w bb room life X) {n : Int} (hn : okSeg n) :
    Calls Try.prog 19 #[.pointer (some ⟨bb, 0, none⟩), .int .i64 n] w (WithP w (X.at n).ps) := by
  obtain ⟨h0, B, rfl, h2, h3⟩ := h
  exact bgPorts_in h2 hn
theorem bgPeers_z {Z : Nat → Prop} {w : World} {bb : Nat} {room life : Int} {X : AB} (h : BrZ Z w bb room life X) {n : Int} (hn : okSeg n) :
    Calls Try.prog 18 #[.pointer (some ⟨bb, 0, none⟩), .int .i64 n] w (WithP w (X.at n).qs) := by
  obtain ⟨h0, B, rfl, h2, h3⟩ := h
  exact bgPeers_in h2 hn
theorem bgBase_z {Z : Nat → Prop} {w : World} {bb : Nat} {room life : Int} {X : AB} (h : BrZ Z w bb room life X) {n : Int} (hn : okSeg n) :
    Calls Try.prog 14 #[.pointer (some ⟨bb, 0, none⟩), .int .i64 n] w fun e w' => (∃ tb, e = .returned (.pointer (some ⟨tb, 0, none⟩))) ∧ w = w' := by
  obtain ⟨h0, B, rfl, h2, h3⟩ := h
  exact (bgBase_in h2 hn).mono fun e w' hh => ⟨⟨_, hh.1⟩, hh.2⟩
/-- A bridge is new: it keeps off all that was. -/
theorem bgNew_z (w : World) (room life : Int) (hl0 : 0 ≤ life) (hl1 : life < 18446744073709551616) {rm : Int} (hrm : min (max room 1) 64 = rm) :
    Calls Try.prog 11 #[.int .i64 room, .int .u64 life] w fun e w' => ∃ bb, e = .returned (.pointer (some ⟨bb, 0, none⟩)) ∧ BrZ (fun k => k < w.heap.size) w' bb rm life AB.new ∧ Fr No w w' :=
  (bgNew_any w room life hl0 hl1 hrm).mono fun e w' hh => by
    obtain ⟨B, he, h1, h2, h3⟩ := hh
    exact ⟨B.bb, he, ⟨fun k hk => Nat.lt_of_lt_of_le hk h3.size, B, rfl, h1, fun i hi hk => by have := h2 i hi; omega⟩, h3⟩
end Go.Proofs.Yticebdoiahadoaa

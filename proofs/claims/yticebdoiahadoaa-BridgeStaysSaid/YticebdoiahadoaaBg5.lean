/- bridge: segment, Segment, Base, Ports, Peers. -/
import Derived.Test.YticebdoiahadoaaBg4
namespace Go.Proofs.Yticebdoiahadoaa
open Go.RowKit
set_option linter.unusedVariables false
set_option linter.unusedSimpArgs false

set_option maxRecDepth 100000 in
set_option maxHeartbeats 1000000 in
theorem bgSegment0_in {w : World} {room life : Int} {B : BrM} {X : AB} (h : BrAt w room life B X) {n : Int} (hn : okSeg n) :
    Calls Try.prog 39 #[.pointer (some ⟨B.bb, 0, none⟩), .int .i64 n] w fun e w' => e = .returned (.pointer (some ⟨(B.at n).sb, 0, none⟩)) ∧ w = w' := by
  have hc := h.cell hn
  obtain ⟨h0, h1⟩ := hn
  have n0 : ¬ n < 0 := by omega
  have n1 : ¬ 8 ≤ n := by omega
  generalize (B.at n).sb = sb at hc ⊢
  clear h
  go_enter Try.func39, Try.ntmps39
  go_wp2
  go_ret
  exact ⟨rfl, rfl⟩
set_option maxRecDepth 100000 in
set_option maxHeartbeats 1000000 in
theorem bgSegment0_out {w : World} {bb : Nat} {n : Int} (hn : ¬ okSeg n) :
    Calls Try.prog 39 #[.pointer (some ⟨bb, 0, none⟩), .int .i64 n] w fun e w' => e = .returned (.pointer none) ∧ w = w' := by
  have hh : n < 0 ∨ (¬ n < 0 ∧ 8 ≤ n) := by unfold okSeg at hn; omega
  rcases hh with n0 | ⟨n0, n1⟩
  · go_enter Try.func39, Try.ntmps39
    go_wp2
    go_ret
    exact ⟨rfl, rfl⟩
  · go_enter Try.func39, Try.ntmps39
    go_wp2
    go_ret
    exact ⟨rfl, rfl⟩
/-- The map of the bound ports is asked. -/
theorem BrAt.look {w : World} {room life : Int} {B : BrM} {X : AB} (h : BrAt w room life B X) {p : Int} (hp : okI p) (W : World) (hW : W.heap[B.nb]? = w.heap[B.nb]?) :
    (Instr.lookup 76 (.map (some B.nb)) (.int .i64 p) true).run Try.prog W = .ok (.tuple #[.int .i64 ((mget X.bd p).getD 0), .bool (mget X.bd p).isSome]) W := by
  have h1 := (h.mp.of_heap hW).look keI Try.underlying76 zeroI hp true
  simp only [if_true, evI] at h1
  rw [h1]
  cases mget X.bd p <;> rfl
set_option maxRecDepth 100000 in
set_option maxHeartbeats 1000000 in
theorem bgSegment_any {w : World} {room life : Int} {B : BrM} {X : AB} (h : BrAt w room life B X) {p : Int} (hp : okI p) :
    Calls Try.prog 13 #[.pointer (some ⟨B.bb, 0, none⟩), .int .i64 p] w fun e w' => e = .returned (.tuple #[.int .i64 ((mget X.bd p).getD 0), .bool (mget X.bd p).isSome]) ∧ Fr No w w' := by
  have k8 := h.mcell
  have lk := h.look hp w rfl
  generalize B.nb = nb at k8 lk
  generalize (mget X.bd p).getD 0 = i at lk ⊢
  generalize (mget X.bd p).isSome = bo at lk ⊢
  clear h
  go_enter Try.func13, Try.ntmps13
  go_wp2_with fail
  go_ret2
  exact ⟨rfl, Fr.refl No w⟩
set_option maxRecDepth 100000 in
set_option maxHeartbeats 1000000 in
theorem bgBase_in {w : World} {room life : Int} {B : BrM} {X : AB} (h : BrAt w room life B X) {n : Int} (hn : okSeg n) :
    Calls Try.prog 14 #[.pointer (some ⟨B.bb, 0, none⟩), .int .i64 n] w fun e w' => e = .returned (.pointer (some ⟨(B.at n).tb, 0, none⟩)) ∧ w = w' := by
  have HS := Lib.hid (bgSegment0_in h hn)
  obtain ⟨k0, k1, k2⟩ := (h.seg n hn).cells
  generalize (B.at n).sb = sb at HS k0 k1 k2
  generalize (B.at n).tb = tb at k0 ⊢
  clear h
  go_enter Try.func14, Try.ntmps14
  go_wp2_with fail
  refine HS.out.mono ?_
  rintro e w1 ⟨rfl, rfl⟩
  go_wp2_with fail
  go_ret
  exact ⟨rfl, rfl⟩
set_option maxRecDepth 100000 in
set_option maxHeartbeats 1000000 in
theorem bgBase_out {w : World} {bb : Nat} {n : Int} (hn : ¬ okSeg n) :
    Calls Try.prog 14 #[.pointer (some ⟨bb, 0, none⟩), .int .i64 n] w fun e w' => e = .returned (.pointer none) ∧ w = w' := by
  go_enter Try.func14, Try.ntmps14
  go_wp2_with fail
  refine (bgSegment0_out hn).mono ?_
  rintro e w1 ⟨rfl, rfl⟩
  go_wp2_with fail
  go_ret
  exact ⟨rfl, rfl⟩
set_option maxRecDepth 100000 in
set_option maxHeartbeats 1000000 in
theorem bgPorts_in {w : World} {room life : Int} {B : BrM} {X : AB} (h : BrAt w room life B X) {n : Int} (hn : okSeg n) :
    Calls Try.prog 19 #[.pointer (some ⟨B.bb, 0, none⟩), .int .i64 n] w (WithP w (X.at n).ps) := by
  have HS := Lib.hid (bgSegment0_in h hn)
  have hS := h.seg n hn
  have HP := Lib.hid hS.p
  have hl := h.good.pl hn
  obtain ⟨k0, k1, k2⟩ := hS.cells
  have hlen := hS.p.1
  generalize (B.at n) = m at HS k0 k1 k2 HP hlen
  obtain ⟨zs, hzs⟩ : ∃ zs, (X.at n).ps = zs := ⟨_, rfl⟩
  rw [hzs] at HP hl hlen ⊢
  have HL := Lib.hid hlen
  clear h hS hzs hlen
  obtain ⟨sb, tb, mb, L, po, pn, pc, qo, qn, qc⟩ := m
  simp only at HS k0 k1 k2 HP HL
  go_enter Try.func19, Try.ntmps19
  go_wp2_with fail
  refine HS.out.mono ?_
  rintro e w1 ⟨rfl, rfl⟩
  go_wp2_with fail
  refine (cloneI_any HP.out.sl (by have := HL.out; omega)).mono ?_
  rintro e w2 ⟨bo, bc, rfl, ob, f2, hbn⟩
  have O2 := Lib.hid ob
  have F2 := Lib.hid f2
  have HB := Lib.hid hbn
  clear ob f2 hbn
  go_wp2_with fail
  go_ret
  have h1 := HL.out
  subst h1
  exact ⟨bo, bc, rfl, O2.out, F2.out, HB.out⟩
set_option maxRecDepth 100000 in
set_option maxHeartbeats 1000000 in
theorem bgPeers_in {w : World} {room life : Int} {B : BrM} {X : AB} (h : BrAt w room life B X) {n : Int} (hn : okSeg n) :
    Calls Try.prog 18 #[.pointer (some ⟨B.bb, 0, none⟩), .int .i64 n] w (WithP w (X.at n).qs) := by
  have HS := Lib.hid (bgSegment0_in h hn)
  have hS := h.seg n hn
  have HP := Lib.hid hS.q
  have hl := h.good.ql n hn
  obtain ⟨k0, k1, k2⟩ := hS.cells
  have hlen := hS.q.1
  generalize (B.at n) = m at HS k0 k1 k2 HP hlen
  obtain ⟨zs, hzs⟩ : ∃ zs, (X.at n).qs = zs := ⟨_, rfl⟩
  rw [hzs] at HP hl hlen ⊢
  have HL := Lib.hid hlen
  clear h hS hzs hlen
  obtain ⟨sb, tb, mb, L, po, pn, pc, qo, qn, qc⟩ := m
  simp only at HS k0 k1 k2 HP HL
  go_enter Try.func18, Try.ntmps18
  go_wp2_with fail
  refine HS.out.mono ?_
  rintro e w1 ⟨rfl, rfl⟩
  go_wp2_with fail
  refine (cloneI_any HP.out.sl (by have := HL.out; omega)).mono ?_
  rintro e w2 ⟨bo, bc, rfl, ob, f2, hbn⟩
  have O2 := Lib.hid ob
  have F2 := Lib.hid f2
  have HB := Lib.hid hbn
  clear ob f2 hbn
  go_wp2_with fail
  go_ret
  have h1 := HL.out
  subst h1
  exact ⟨bo, bc, rfl, O2.out, F2.out, HB.out⟩
end Go.Proofs.Yticebdoiahadoaa

/- TunnelApart: the statement, out of its walk. -/
import Derived.Test.YthoppkklooomgaaRows
import Derived.Test.YthoppkklooomgaaLawTunnelApart
import Derived.WalkKit
import Derived.ProofKit
import Derived.OpenShut
import Derived.ShutString
import Derived.ChangeOld
import Derived.Below
namespace Go.Proofs.Ythoppkklooomgaa.tunnelApart
open Go.ChangeShapes Go.WideShapes Go.ChangeAt Go.RowKit
open Go.ChangeMaps (open_string shut_string)
set_option linter.unusedVariables false

theorem own : ownKnob Try.prog.godebug = none := by kernel_rfl
theorem laidOut : laidOutB Try.prog = true := by kernel_rfl

set_option maxRecDepth 100000 in
theorem lifted (os : Os) (started : os.Started) (H : Type) (enc : TypeId × Value → H) :
    ReturnsInHanded {} Try.checked os 7 .any (Rows.tunnelApartSpec.pre6 enc Try.prog Try.f7 Rows.tunnelApartRow.domain false) (Rows.tunnelApartSpec.post enc Try.prog Try.f7 false true false false) := by
  refine returnsInHanded_of_change_sized (C := Try.checked) own started (by kernel_rfl) Try.func7
    (ChangeSpec.witness6 (enc := enc) (C := Try.checked) false ⟨#[], #[.slice none 0 0, .agg #[.int .u32 0, .int .u32 0, .int .u8 0, .int .u16 0, .int .u16 0, .slice none 0 0]], []⟩ 8 (by kernel_rfl) (by kernel_rfl) (by kernel_rfl) (by kernel_rfl)) ?_
  intro W base args ds gs before hval0 hW hcnd hsz0 _
  have hsz : (DataW.weightsEach Try.prog (Try.f7.params.toList ++ Rows.tunnelApartSpec.plain.varTypes Try.prog) (ds ++ gs)).all (· ≤ reachBytes) = true := hsz0
  clear hsz0
  have hval : ∀ (j : Nat) t v, Try.f7.params[j]? = some t → args[j]? = some v → Value.okWide Try.prog W .any base t v := hval0
  have hW' := hW
  obtain ⟨p, q, hA0, hV, rfl, hfz, hnd⟩ := hW
  have hA : DataW.TrodAll enc Try.prog W 0 (fun _ => true) true Try.f7.params.toList args.toList ds p := hA0
  rw [Try.params7] at hA hval hsz
  obtain ⟨v0, vs0, d0, ds0, p0, q0, hargs, rfl, rfl, h0, r0⟩ := trodAll_cons hA
  obtain ⟨v1, vs1, d1, ds1, p1, q1, rfl, rfl, rfl, h1, r1⟩ := trodAll_cons r0
  obtain ⟨rfl, rfl, rfl⟩ := trodAll_nil r1
  obtain rfl : args = #[v0, v1] := by cases args; simp_all
  obtain ⟨rfl, rfl⟩ := trodVars_none hV
  have kt0 := h0
  have lt0 : ∀ x ∈ p0, x.block < W.heap.size := by obtain ⟨m, hm⟩ := kt0; exact DataW.trod_lt m _ _ _ hm
  have hz0 : ∀ z ∈ d0.weights Try.prog 58, z ≤ reachBytes := fun z hz => of_decide_eq_true (List.all_eq_true.1 hsz z (DataW.weights_mem_each (j := 0) rfl rfl z hz))
  obtain ⟨lo0, ln0, lc0, rfl, hl0⟩ := open_tunnels (hval 0 58 v0 rfl rfl) h0 hz0
  have kt1 := h1
  have lt1 : ∀ x ∈ p1, x.block < W.heap.size := by obtain ⟨m, hm⟩ := kt1; exact DataW.trod_lt m _ _ _ hm
  obtain ⟨q1, bo1, bn1, bc1, rfl, hb1, hs1, hd1⟩ := open_packet (hval 1 41 v1 rfl rfl) h1
  clear hA0 hval0
  have hwalk : Calls Try.prog 7 #[.slice lo0 ln0 lc0, .agg #[.int .u32 (q1.src : Int), .int .u32 (q1.dst : Int), .int .u8 (q1.proto : Int), .int .u16 (q1.sport : Int), .int .u16 (q1.dport : Int), .slice bo1 bn1 bc1]] W fun e w' => e = .returned (.bool true) ∧ Below W.heap.size W w' := by
    exact (TunnelApart_walk hl0 hb1 hs1 hd1).mono fun e w' ⟨he, hf⟩ => ⟨he, hf.below⟩
  refine hwalk.mono fun e W' ⟨he, bel⟩ => ?_
  subst he
  exact ⟨_, rfl, _, _, _, [], _, [], hW', trodAll_mk1 (shut_bool Try.underlying4 _), (trodAll_cons_mk (Below.trod laidOut (by kernel_rfl) (of_decide_eq_true (by kernel_rfl)) kt0 bel lt0) (trodAll_cons_mk (Below.trod laidOut (by kernel_rfl) (of_decide_eq_true (by kernel_rfl)) kt1 bel lt1) trodAll_mk0)), rfl, bel.frame _, fun h => by cases h⟩

theorem over : Rows.tunnelApartRow.holds Try.pinned (OpenSpec.ofChange Rows.tunnelApartSpec) :=
  OpenClaim.holds_of_wide 7 Try.f7 rfl rfl rfl rfl rfl rfl rfl ⟨rfl, rfl, rfl, rfl, rfl⟩ rfl rfl rfl rfl rfl (by kernel_rfl) Try.func7 (by kernel_rfl)
    (of_decide_eq_true (by kernel_rfl)) (by unfold Func.isWrapper; first | (rw [if_pos (by decide +kernel)]; kernel_rfl) | (rw [if_neg (by decide +kernel)]; exact ⟨rfl, rfl⟩))
    (fun os started H enc _ => lifted os started H enc)

/-- The statement. -/
theorem proved : Rows.TunnelApartSaid := over
#print axioms proved
end Go.Proofs.Ythoppkklooomgaa.tunnelApart

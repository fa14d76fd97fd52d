/- BridgeMoves: the statement, out of its walk: the row, its listed variables tied, the card. -/
import Derived.Test.YticebdoiahadoaaDoorRows
import Derived.Test.YticebdoiahadoaaDoorCards
import Derived.Test.YticebdoiahadoaaDoorTie
import Derived.Test.YticebdoiahadoaaDoorLawBridgeMoves
import Derived.Test.YticebdoiahadoaaDoorLiftPl
import Derived.Test.YticebdoiahadoaaDoorLiftMac
import Derived.Test.YticebdoiahadoaaDoorLift
import Derived.WalkKit
import Derived.ProofKit
import Derived.OpenShut
import Derived.ShutString
import Derived.ChangeOld
import Derived.Below
import Derived.ChangeVars
import Derived.JoinedOf
import Derived.LaidLaws
import Derived.LaidHandle
import Derived.SevenTiedAt
import Derived.Lib.LaidU8
import Derived.Stop.Joined
import Derived.LaidMore
namespace Go.Proofs.YticebdoiahadoaaDoor.bridgeMoves
open Go.ChangeShapes Go.WideShapes Go.ChangeAt Go.RowKit
open Go.ChangeMaps (open_string shut_string)
set_option linter.unusedVariables false

theorem own : ownKnob Tryd.prog.godebug = none := by kernel_rfl
theorem laidOut : laidOutB Tryd.prog = true := by kernel_rfl
def listed : List (String × DataW Unit) := [("underpass/api.All", Rows.laid_underpass_api_All)]
theorem gAll : Tryd.prog.globalNamed "underpass/api.All" = some 0 := by kernel_rfl
theorem tAll : (Tryd.prog.globals[0]?).map (·.type) = some 24 := by kernel_rfl
theorem cU8 : Tryd.prog.cellsOf 5 = 1 := by kernel_rfl
theorem handle_of_laid {W : World} (h : laidMetH Tryd.prog listed W) : EG W := by
  rw [MakeChecks.laidMetH_plain _ _ _ (by kernel_rfl)] at h
  obtain ⟨g0, t0, cs0, f0, p0, hg0, ht0, hv0, hd0⟩ := Lib.laidMet.reads h (List.mem_singleton.2 rfl)
  obtain rfl := Option.some.inj (gAll.symm.trans hg0)
  obtain rfl := Option.some.inj (tAll.symm.trans ht0)
  intro i hi
  obtain ⟨f', d, q, hds, htr⟩ := Lib.array_elem Tryd.underlying24 hd0 i hi
  obtain ⟨z, hcz, hz, _⟩ := DataW.trod_int Tryd.underlying5 htr
  have hd : d = .lit (.int .u8 255) := by have hm := List.mem_of_getElem? hds; simpa using hm
  simp only [Prod.mk.injEq] at hz
  rw [hd] at hz
  obtain rfl : z = 255 := by have := hz.1; simp only [DataW.lit.injEq, Lit.int.injEq, true_and] at this; exact this.symm
  rw [cU8, Nat.mul_one] at hcz
  have h1 : cs0.toList[i]? = some (.int .u8 255) := by
    have := congrArg (·[0]?) hcz
    simpa [List.getElem?_take, List.getElem?_drop] using this
  have h2 := World.var?_cell hg0 hv0 i
  rw [h2]
  simpa using h1
noncomputable def laidWorld (os : Os) : World :=
  let w0 := World.holding Tryd.prog os ⟨#[], #[], []⟩
  { w0 with heap := (w0.heap.modify 0 fun | .cells _ t frozen => .cells #[.int .u8 255, .int .u8 255, .int .u8 255, .int .u8 255, .int .u8 255, .int .u8 255] t frozen | o => o) }
theorem laidWorld_met (os : Os) (args : Array Value) : laidMetH Tryd.prog listed ((laidWorld os).forCall (fun _ _ => 0) ⟨#[], args, []⟩).memory :=
  laidMetH_of_parts (laidMet_of_run' 20 (by kernel_rfl) (by kernel_rfl)) (by kernel_rfl)

set_option maxRecDepth 100000 in
theorem lifted (os : Os) (started : os.Started) (H : Type) (enc : TypeId × Value → H) :
    ReturnsInHanded {} Tryd.checked os 3 .any (fun w args => (Rows.bridgeMovesSpec.pre enc Tryd.prog Tryd.f3 [] false w args ∧ laidMetH Tryd.prog listed w) ∧ sizedMet enc Tryd.prog Tryd.f3 (OpenSpec.ofChange Rows.bridgeMovesSpec) false w args) (Rows.bridgeMovesSpec.post enc Tryd.prog Tryd.f3 false true false false) := by
  refine returnsInHanded_of_change_and (C := Tryd.checked) (X := fun w _ => laidMetH Tryd.prog listed w) (fun _ _ _ hh h => h.of_heap hh) own started (by kernel_rfl) Tryd.func3
    (ChangeSpec.witness_at (enc := enc) (C := Tryd.checked) (os := os) (X := fun w _ => laidMetH Tryd.prog listed w) false (laidWorld os) #[.int .i64 0, .int .u64 0, .agg #[.int .u8 0, .int .u8 0, .int .u8 0, .int .u8 0, .int .u8 0, .int .u8 0], .slice none 0 0] 8 rfl (by kernel_rfl) (by kernel_rfl) (by kernel_rfl) (by kernel_rfl) (by kernel_rfl) (laidWorld_met os _)) ?_
  intro W base args ds gs before hval0 hW hcnd _ hL _
  have hg := handle_of_laid hL
  have hval : ∀ (j : Nat) t v, Tryd.f3.params[j]? = some t → args[j]? = some v → Value.okWide Tryd.prog W .any base t v := hval0
  have hW' := hW
  obtain ⟨p, q, hA0, hV, rfl, hfz, hnd⟩ := hW
  have hA : DataW.TrodAll enc Tryd.prog W 0 (fun _ => true) true Tryd.f3.params.toList args.toList ds p := hA0
  rw [Tryd.params3] at hA hval
  obtain ⟨v0, vs0, d0, ds0, p0, q0, hargs, rfl, rfl, h0, r0⟩ := trodAll_cons hA
  obtain ⟨v1, vs1, d1, ds1, p1, q1, rfl, rfl, rfl, h1, r1⟩ := trodAll_cons r0
  obtain ⟨v2, vs2, d2, ds2, p2, q2, rfl, rfl, rfl, h2, r2⟩ := trodAll_cons r1
  obtain ⟨v3, vs3, d3, ds3, p3, q3, rfl, rfl, rfl, h3, r3⟩ := trodAll_cons r2
  obtain ⟨rfl, rfl, rfl⟩ := trodAll_nil r3
  obtain rfl : args = #[v0, v1, v2, v3] := by cases args; simp_all
  obtain ⟨rfl, rfl⟩ := trodVars_none hV
  obtain ⟨a0, rfl, rfl, rfl, w0⟩ := open_int Tryd.underlying3 (hval 0 3 v0 rfl rfl) h0
  obtain ⟨a1, rfl, rfl, rfl, w1⟩ := open_int Tryd.underlying22 (hval 1 22 v1 rfl rfl) h1
  have kt2 := h2
  have lt2 : ∀ x ∈ p2, x.block < W.heap.size := by obtain ⟨m, hm⟩ := kt2; exact DataW.trod_lt m _ _ _ hm
  obtain ⟨m2, rfl, hm2⟩ := open_mac (hval 2 24 v2 rfl rfl) h2
  have kt3 := h3
  have lt3 : ∀ x ∈ p3, x.block < W.heap.size := by obtain ⟨m, hm⟩ := kt3; exact DataW.trod_lt m _ _ _ hm
  obtain ⟨ao3, on3, oc3, xs3, rfl, hs3⟩ := open_places (hval 3 25 v3 rfl rfl) h3
  clear hA0 hval0
  have hwalk : Calls Tryd.prog 3 #[.int .i64 a0, .int .u64 a1, evM m2, .slice ao3 on3 oc3] W fun e w' => e = .returned (.bool true) ∧ Below W.heap.size W w' := by
    have b1 := bounds_u64 w1
    exact (BridgeMoves_walk hg a0 b1.1 (by omega) m2 hs3).mono fun e w' ⟨he, hf⟩ => ⟨he, hf.below⟩
  refine hwalk.mono fun e W' ⟨he, bel⟩ => ?_
  subst he
  exact ⟨_, rfl, _, _, _, [], _, [], hW', trodAll_mk1 (shut_bool Tryd.underlying4 _), (trodAll_cons_mk (shut_int Tryd.underlying3 w0) (trodAll_cons_mk (shut_int Tryd.underlying22 w1) (trodAll_cons_mk (Below.trod laidOut (by kernel_rfl) (of_decide_eq_true (by kernel_rfl)) kt2 bel lt2) (trodAll_cons_mk (Below.trod laidOut (by kernel_rfl) (of_decide_eq_true (by kernel_rfl)) kt3 bel lt3) trodAll_mk0)))), rfl, bel.frame _, fun h => by cases h⟩

theorem over : Rows.BridgeMovesSaid :=
  OpenClaim.holds_of_wide 3 Tryd.f3 rfl rfl rfl rfl rfl rfl rfl ⟨rfl, rfl, rfl, rfl, rfl⟩ rfl rfl rfl rfl rfl (by kernel_rfl) Tryd.func3 (by kernel_rfl)
    (of_decide_eq_true (by kernel_rfl)) (by unfold Func.isWrapper; first | (rw [if_pos (by decide +kernel)]; kernel_rfl) | (rw [if_neg (by decide +kernel)]; exact ⟨rfl, rfl⟩))
    (fun os started H enc _ => lifted os started H enc)

set_option maxRecDepth 100000 in
/-- The statement: the tied card. -/
theorem proved : Rows.BridgeMovesCardSaid :=
  Claim7.holds_tied_plain_at .later [] [.data] true (true, "c163918c275f0028e745837acefcaf5844e2f86ef14a19470274749db65954b9") false
    over (fun _ h => by cases h) (by kernel_rfl) (fun _ h => by cases h) bridgeMoves_row_tie rfl ⟨rfl, rfl⟩ (by kernel_rfl) rfl
    (fun f fn hf hfn => by
      obtain rfl : f = 3 := Option.some.inj ((show Tryd.prog.funcNamed "underpass/underpasslaw16.BridgeMoves" = some 3 by kernel_rfl).symm.trans hf) |>.symm
      obtain rfl : fn = Tryd.f3 := (Option.some.inj (Tryd.func3.symm.trans hfn)).symm
      refine ⟨by kernel_rfl, fun j t ht => ?_⟩
      rw [Tryd.params3] at ht
      have s3 : Tryd.prog.wantsStandIn 3 = false := by kernel_rfl
      have s22 : Tryd.prog.wantsStandIn 22 = false := by kernel_rfl
      have s24 : Tryd.prog.wantsStandIn 24 = false := by kernel_rfl
      have s25 : Tryd.prog.wantsStandIn 25 = false := by kernel_rfl
      have hm := Array.mem_of_getElem? ht
      simp at hm
      rcases hm with rfl | rfl | rfl | rfl <;> assumption)
    (by kernel_rfl)
#print axioms proved
end Go.Proofs.YticebdoiahadoaaDoor.bridgeMoves

/- Program-independent: the laws of Mp inside a fence; iterators. -/
import Derived.Test.YticebdoiahadoaaDoorMp
import Derived.RangeFuncNested
import Derived.RangeFuncBound
import Derived.RangeFuncCalls
import Derived.RangeFuncLeaves
import Derived.Shelf.Abstract
import Derived.Shelf.RegionOpen
import Derived.WalkKit
import Derived.OwnWalkIn
import Derived.TacticsInMore
import Derived.LoopNIn
import Derived.LoopIn
import Derived.RegionIn
import Derived.Sort.MapsRangeIn
import Derived.Sort.KeysCollected
import Derived.Maps.AppendAt
import Derived.Maps.OwnIn
namespace Go.Proofs.YticebdoiahadoaaDoor
open Go.RowKit Go.Shelf
open Go.Maps (Keyed)
set_option linter.unusedVariables false
set_option linter.unusedSectionVars false
set_option linter.unusedSimpArgs false
section
variable {Fe : Fence} {n : Nat} {P : Program} {kt : TypeId} {κ β : Type} [DecidableEq κ] {ok : κ → Prop} {ek : κ → Value} {ev : β → Value}
variable {w : World} {b r : Nat} {l left : List (κ × β)}
variable {ops : Array Oper} {rest : List Oper} {o : Oper} {a : Act} {Q : Exit → Act → World → Prop}
theorem wpListIn_range_mp (hg : o.guard = none) (m : Operand) (t : TypeId) (hop : o.op = Op.range t m) {e : TypeId} (ht : P.underlying t = some (.map kt e))
    (hm : a.eval m = .map (some b)) (h : Mp ok ek ev w b l)
    (hK : ∀ w', Rg ok ek ev w' b w.heap.size l l → w.grownBy w' none → w'.heap.size = w.heap.size + 1 → wpListIn Fe n P ops Q rest (a.put o.dst (.pointer (some ⟨w.heap.size, 0, none⟩))) w') :
    wpListIn Fe n P ops Q (o :: rest) a w := by
  refine wpListIn_plain hg fun K' hK' => ?_
  obtain ⟨w', hrun, r1, r2, r3⟩ := h.range ht
  unfold Oper.wpIn
  refine ⟨?_, ?_⟩
  · simp [Oper.about, hop]
  · rw [Oper.semAt_plain Fe _ _ (by rw [hop]; intro c hc'; cases hc')]
    simp [execOp, hop, hm, hrun, Result.andThen]
    exact hK' _ _ (hK w' r1 r2 r3)
theorem wpListIn_next_mp (hg : o.guard = none) (it : Operand) (hop : o.op = Op.next it false) (K : KE P kt ok ek) (hit : a.eval it = .pointer (some ⟨r, 0, none⟩)) (h : Rg ok ek ev w b r l left)
    (hDone : left = [] → wpListIn Fe n P ops Q rest (a.put o.dst (.tuple #[.bool false])) w)
    (hMore : ∀ p w', p ∈ left → Rg ok ek ev w' b r l (mdel left p.1) → w.grownBy w' (some r) → w'.heap.size = w.heap.size → (Instr.entry (.pointer (some ⟨r, 0, none⟩))).run P w' = .ok (.tuple #[ek p.1, ev p.2]) w' →
      wpListIn Fe n P ops Q rest (a.put o.dst (.tuple #[.bool true, ek p.1, ev p.2])) w') :
    wpListIn Fe n P ops Q (o :: rest) a w := by
  refine wpListIn_plain hg fun K' hK' => ?_
  unfold Oper.wpIn
  refine ⟨by simp [Oper.about, hop], ?_⟩
  rw [Oper.semAt_plain Fe _ _ (by rw [hop]; intro c hc'; cases hc')]
  rcases h.next K o.type with ⟨h0, hrun⟩ | ⟨p, w', hp, hrun, r1, r2, r3, r4⟩
  · simp [execOp, hop, hit, hrun, Result.andThen]
    exact hK' _ _ (hDone h0)
  · simp [execOp, hop, hit, hrun, Result.andThen]
    exact hK' _ _ (hMore p w' hp r1 r2 r3 r4)

theorem Mp.walk (h : Mp ok ek ev w b l) : ∃ o, w.heap[b]? = some o ∧ o.isWalk = true := by
  obtain ⟨es, c, hb, _⟩ := h.ex
  exact ⟨_, hb, rfl⟩
theorem Rg.kept {w' : World} (h : Rg ok ek ev w b r l left) (hk : KeepsWalks w w') : Rg ok ek ev w' b r l left := by
  obtain ⟨o1, h1, h2⟩ := h.mp.walk
  obtain ⟨o3, h3, h4⟩ := h.iter
  exact h.of_heap ((hk.same b o1 h1 h2).trans h1.symm) ((hk.same r o3 h3 h4).trans h3.symm)
theorem Mp.kept {w' : World} (h : Mp ok ek ev w b l) (hk : KeepsWalks w w') : Mp ok ek ev w' b l := by
  obtain ⟨o1, h1, h2⟩ := h.walk
  exact h.of_heap ((hk.same b o1 h1 h2).trans h1.symm)
theorem Mp.below {B : Nat} {w' : World} (h : Mp ok ek ev w b l) (hk : Below B w w') (hB : b < B) : Mp ok ek ev w' b l := h.of_heap (hk.block b hB)
end
theorem keeps_of_others {w w' : World} (h : KeepsOthers w w') : KeepsWalks w w' := ⟨h.size, fun k o hk ho => h.same k o hk (by cases o <;> first | rfl | cases ho)⟩
end Go.Proofs.YticebdoiahadoaaDoor
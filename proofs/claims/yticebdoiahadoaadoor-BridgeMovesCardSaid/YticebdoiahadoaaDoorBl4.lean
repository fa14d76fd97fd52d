/- bridge laws: does. -/
import Derived.Test.YticebdoiahadoaaDoorBlQ
namespace Go.Proofs.YticebdoiahadoaaDoor
open Go.RowKit
set_option linter.unusedVariables false
set_option linter.unusedSimpArgs false
structure St16 where
  kind : Int
  n : Int
  s : Int
  b : List UInt8
  by_ : UInt8
deriving Inhabited
def aDoes (room life : Int) (X : AB) (x : St16) (now : Int) : AOut × Int × AB :=
  if x.kind = 0 then (noOut, -1, (aBind X x.n x.s).2)
  else if x.kind = 1 then (noOut, -1, (aUnbind X x.n).2)
  else if x.kind = 2 then (noOut, -1, (aPeer X x.s x.n).2)
  else if x.kind = 3 then (noOut, -1, (aUnpeer X x.s x.n).2)
  else if x.kind = 4 ∨ x.kind = 5 ∨ x.kind = 6 ∨ x.kind = 7 then
    if (aFromPort room life X x.n x.b now).2.1 = 0 then ((aFromPort room life X x.n x.b now).1, (mget X.bd x.n).getD 0, (aFromPort room life X x.n x.b now).2.2) else (noOut, -1, (aFromPort room life X x.n x.b now).2.2)
  else if x.kind = 8 ∨ x.kind = 9 then
    if (aFromTunnel room life X x.s x.n x.b now).2.1 = 0 then ((aFromTunnel room life X x.s x.n x.b now).1, x.s, (aFromTunnel room life X x.s x.n x.b now).2.2) else (noOut, -1, (aFromTunnel room life X x.s x.n x.b now).2.2)
  else (noOut, -1, X)
def okSt (x : St16) : Prop := okI x.kind ∧ okI x.n ∧ okI x.s
theorem cells5s {w : World} {b : Nat} {c0 c1 c2 c3 c4 : Value} {e : TypeId} {f : Nat × Nat} (h : w.heap[b]? = some (.cells #[c0, c1, c2, c3, c4] e f)) : w.cell? ⟨b, 0, none⟩ = some c0 ∧ w.cell? ⟨b, 1, none⟩ = some c1 ∧ w.cell? ⟨b, 2, none⟩ = some c2 ∧ w.cell? ⟨b, 3, none⟩ = some c3 ∧ w.cell? ⟨b, 4, none⟩ = some c4 :=
  ⟨by rw [cell_of_row w b 0 _ e f h]; rfl, by rw [cell_of_row w b 1 _ e f h]; rfl, by rw [cell_of_row w b 2 _ e f h]; rfl, by rw [cell_of_row w b 3 _ e f h]; rfl, by rw [cell_of_row w b 4 _ e f h]; rfl⟩

theorem does_end {Z Z1 : Nat → Prop} {w wA w2 wq : World} {bb : Nat} {room life : Int} {X' : AB} {o : AOut} {s : Int} {po qo : Option Addr} {pc qc : Nat} (hA : Fr No w wA) (hz : ∀ k, Z k → Z1 k) (hb : Z1 (w.heap.size + 1)) (h2 : BrZ (fun k => Z1 k ∨ At po k ∨ At qo k) w2 bb room life X') (f2 : Fr (NZ Z1) wA w2)
    {cs : Array Value} (rb : w2.heap[w.heap.size + 1]? = some (.cells cs 37 (0, 0))) (cp : OI w2 po o.ps.length pc o.ps) (cq : OI w2 qo o.qs.length qc o.qs) (fq : Fr (Is (w.heap.size + 1)) w2 wq) :
    GoesZ Z w bb room life (o, s, X') (.returned (.tuple #[.agg #[.slice po o.ps.length pc, .slice qo o.qs.length qc, .bool o.fl], .int .i64 s])) wq := by
  have hout : ∀ {ao : Option Addr} {n c : Nat} {zs : List Int}, OI w2 ao n c zs → Out (Is (w.heap.size + 1)) ao := by
    intro ao n c zs ho a ha e
    obtain ⟨-, cur, g2, -⟩ := ho.2.row a ha
    rw [show a.block = w.heap.size + 1 from e, rb] at g2; simp at g2
  refine ⟨po, pc, qo, qc, rfl, cp.fr fq (hout cp), cq.fr fq (hout cq), ?_, ?_⟩
  · exact (h2.wr (fq.mono (fun k _ e => .inl (by rw [show k = w.heap.size + 1 from e]; exact hb)))).less (fun k hk => hk.imp (hz k) id)
  · have f1 : Fr (NZ Z) w w2 := (hA.of_no).then f2 (fun i hi hn h => hn (hz i h))
    exact f1.then fq (fun i hi e => by simp only [Is] at e; omega)
theorem BrZ.two {Z : Nat → Prop} {w : World} {bb : Nat} {room life : Int} {X : AB} (h : BrZ Z w bb room life X) (o1 o2 : Obj) : ∃ Z1, BrZ Z1 ((w.alloc o1).alloc o2) bb room life X ∧ (∀ k, Z k → Z1 k) ∧ Z1 w.heap.size ∧ Z1 (w.heap.size + 1) :=
  ⟨_, h.more (((Fr.refl No w).alloc o1).alloc o2), fun k hk => .inl hk, .inr ⟨Nat.le_refl _, by simp; omega⟩, .inr ⟨by omega, by simp⟩⟩
theorem BrZ.nones {Z : Nat → Prop} {w : World} {bb : Nat} {room life : Int} {X : AB} (h : BrZ Z w bb room life X) : BrZ (fun k => Z k ∨ At none k ∨ At none k) w bb room life X :=
  h.less (fun k hk => by rcases hk with hk | ⟨a, ha, -⟩ | ⟨a, ha, -⟩; exact hk; cases ha; cases ha)
end Go.Proofs.YticebdoiahadoaaDoor
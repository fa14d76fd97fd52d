/- fdb: add where there is no room. -/
import Derived.Test.YticebdoiahadoaaDoorFdP
import Derived.Deep.RegionHeld3
namespace Go.Proofs.YticebdoiahadoaaDoor
open Go.RowKit
set_option linter.unusedVariables false
set_option linter.unusedSimpArgs false
theorem fbValues_any (w : World) (mb : Option Nat) : Calls Tryd.prog 43 #[.map mb] w fun e w' => e = .returned (.func (.func 50) #[] #[.pointer (some ⟨w.heap.size, 0, none⟩)]) ∧ w' = w.alloc (.cells #[.map mb] 61) :=
  callsIn_wide.1 (fbValues_in Fence.wide 5 trivial rfl mb w)
/-- The entry of a block. -/
def enB (L : FL) (b : Nat) : En := ((L.find? (fun p => decide (p.2.1 = b))).map (·.2.2)).getD default
theorem enB_mem {L : FL} (nd : (L.map (·.2.1)).Nodup) {p : Mac × Nat × En} (hp : p ∈ L) : enB L p.2.1 = p.2.2 := by
  unfold enB
  cases hf : L.find? (fun p' => decide (p'.2.1 = p.2.1)) with
  | none =>
    have := List.find?_eq_none.1 hf p hp
    simp at this
  | some p' =>
    have h1 := List.mem_of_find?_eq_some hf
    have h2 : p'.2.1 = p.2.1 := by simpa using List.find?_some hf
    have : p' = p := by
      obtain ⟨i, hi⟩ := List.mem_iff_getElem?.1 h1
      obtain ⟨j, hj⟩ := List.mem_iff_getElem?.1 hp
      have hij : i = j := by
        have hi' : (L.map (·.2.1))[i]? = some p'.2.1 := by rw [List.getElem?_map, hi]; rfl
        have hj' : (L.map (·.2.1))[j]? = some p'.2.1 := by rw [List.getElem?_map, hj, h2]; rfl
        exact (List.getElem?_inj (List.getElem?_eq_some_iff.1 hi').1 nd).1 (hi'.trans hj'.symm)
      subst hij
      exact Option.some.inj (hi.symm.trans hj)
    rw [this]; rfl
/-- delete at a step of a region that draws its order. -/
theorem step_del_mp {κ β : Type} [DecidableEq κ] {ok : κ → Prop} {ek : κ → Value} {ev : β → Value} {kt : TypeId} {w : World} {b : Nat} {l : List (κ × β)} {ops : Array Oper} {o : Oper} {a : Act} {K : Act → World → Prop} {Q : Exit → Act → World → Prop} {E : Prop} (m x : Operand) (t : TypeId)
    (hgd : o.guard = none) (hop : o.op = Op.call { callee := Callee.builtin Builtin.delete, args := #[m, x], argTypes := #[t, kt] }) {e : TypeId} (KK : KE Tryd.prog kt ok ek) (ht : Tryd.prog.underlying t = some (.map kt e))
    (hm : a.eval m = .map (some b)) (h : Mp ok ek ev w b l) (k : κ) (hk : ok k) (hx : a.eval x = ek k)
    (hK : ∀ w', Mp ok ek ev w' b (mdel l k) → Fr (Is b) w w' → w'.heap.size = w.heap.size → K (a.put o.dst (.tuple #[])) w') :
    if Region.wanted o (yielded ops a.tmps) = true then Oper.wp Tryd.prog o a w K Q else E := by
  have hw : Region.wanted o (yielded ops a.tmps) = true := by simp [Region.wanted, hgd]
  rw [if_pos hw]
  obtain ⟨w', hrun, r1, r2, r3⟩ := h.del KK ht hk (ty := o.type)
  unfold Oper.wp
  simp [execOp, hop, resolve, invoke, builtin, hm, hx, hrun, Result.andThen]
  exact hK w' r1 r2 r3
end Go.Proofs.YticebdoiahadoaaDoor
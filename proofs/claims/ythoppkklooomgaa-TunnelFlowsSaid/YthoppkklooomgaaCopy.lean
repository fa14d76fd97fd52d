/- 'append([]byte{}, x...)'. -/
import Derived.Test.YthoppkklooomgaaOctW
namespace Go.Proofs.Ythoppkklooomgaa
open Go.RowKit
set_option linter.unusedVariables false
theorem wpl_copy {w : World} {ops : Array Oper} {rest : List Oper} {o : Oper} {a : Act} {Q : Exit → Act → World → Prop} (s x : Operand)
    (hgd : o.guard = none) (hop : o.op = .call { callee := .builtin .append, args := #[s, x], argTypes := #[36, 36] })
    (hev : a.eval s = .slice (some ⟨w.heap.size, 0, none⟩) 0 0) {bo : Option Addr} {m c : Nat} (hex : a.eval x = .slice bo m c)
    {ys : List UInt8} (h2 : Bs w bo m c ys) (hb : m ≤ big)
    (hK : ∀ g cap' w', OB w' 5 (some ⟨g, 0, none⟩) m cap' ys → Fr No w w' → w.heap.size ≤ g → wpList Try.prog ops Q rest (a.put o.dst (.slice (some ⟨g, 0, none⟩) m cap')) w') :
    wpList Try.prog ops Q (o :: rest) a (w.alloc (.cells #[] 5)) := by
  refine wpl_append s x hgd hop hev hex (OB.made [] (by decide) (by rfl) rfl rfl) (h2.no ((Fr.refl _ _).alloc _)) (by omega) ?_
  intro ao' cap' w' ho hf hd hz
  obtain ⟨b, rfl⟩ : ∃ b, ao' = some b := Option.ne_none_iff_exists'.1 (hz (by simp))
  have ha := (ho.2.row b rfl).1
  have h0 : 0 + m = m := by omega
  rw [h0, List.nil_append] at ho
  rw [h0]
  have hbg : w.heap.size ≤ b.block := by
    rcases hd with hd | hd
    · cases hd; exact Nat.le_refl _
    · have := hd _ rfl; simp at this; omega
  rw [ha] at ho ⊢
  refine hK _ _ _ ho (((Fr.refl _ _).alloc _).then hf ?_) hbg
  rintro i hi ⟨b', hb', rfl⟩; cases hb'; simp at hi

end Go.Proofs.Ythoppkklooomgaa
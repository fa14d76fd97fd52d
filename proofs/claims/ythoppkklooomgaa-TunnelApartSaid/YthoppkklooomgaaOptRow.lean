/- A row of options that is read, as cells; what is appended to it. -/
import Derived.Test.YthoppkklooomgaaGen6
namespace Go.Proofs.Ythoppkklooomgaa
open Go.RowKit
set_option linter.unusedVariables false
theorem choose_list {α : Type} (n : Nat) (Q : Nat → α → Prop) (h : ∀ i, i < n → ∃ x, Q i x) : ∃ l : List α, l.length = n ∧ ∀ (i : Nat) (x : α), l[i]? = some x → Q i x := by
  induction n with
  | zero => exact ⟨[], rfl, fun i x hx => by simp at hx⟩
  | succ k ih =>
    obtain ⟨l, h1, h2⟩ := ih (fun i hi => h i (by omega))
    obtain ⟨x, hx⟩ := h k (by omega)
    refine ⟨l ++ [x], by simp [h1], fun i y hy => ?_⟩
    by_cases hi : i < l.length
    · rw [List.getElem?_append_left hi] at hy; exact h2 i y hy
    · have hik : i = k := by
        have := (List.getElem?_eq_some_iff.1 hy).1
        simp at this; omega
      subst hik
      rw [← h1] at hy
      simp at hy
      subst hy
      exact hx
theorem Rs.cells {w : World} {ao : Option Addr} {n cap : Nat} {os : List Opt} (h : Rs w ao n cap os) :
    ∃ ad : List (Option Addr × Nat), ad.length = n ∧ Sl w ao n cap (optV os ad) ∧ ∀ (i : Nat) (o : Opt) (p : Option Addr × Nat), os[i]? = some o → ad[i]? = some p → Bs w p.1 o.b.length p.2 o.b := by
  have hl := h.len
  cases ao with
  | none =>
    have h0 := h.nocap rfl
    have h1 := h.le
    obtain rfl : n = 0 := by omega
    have ho : os = [] := List.eq_nil_of_length_eq_zero hl.symm
    subst ho
    exact ⟨[], rfl, ⟨h.le, h.capLe, h.nocap, fun a ha => by cases ha⟩, fun i o p ho => by simp at ho⟩
  | some a =>
    obtain ⟨ad, h1, h2⟩ := choose_list n (fun i (p : Option Addr × Nat) => ∃ o, os[i]? = some o ∧ w.cell? (a.add (i * 3)) = some (.int .u16 (o.cls : Int)) ∧ w.cell? (a.add (i * 3 + 1)) = some (.int .u8 (o.typ.toNat : Int)) ∧ w.cell? (a.add (i * 3 + 2)) = some (.slice p.1 o.b.length p.2) ∧ Bs w p.1 o.b.length p.2 o.b) (fun i hi => by
      obtain ⟨a', o, ha, ho, ⟨bo, bc, c1, c2, c3, c4⟩, -⟩ := h.get i hi
      cases ha
      have hsp := World.cell?_spot c1
      refine ⟨(bo, bc), o, ho, c1, ?_, ?_, c4⟩
      · rw [← Addr.add_add, add_of_spot hsp]; exact c2
      · rw [← Addr.add_add, add_of_spot hsp]; exact c3)
    refine ⟨ad, h1, ⟨h.le, h.capLe, h.nocap, fun a' ha j u hu => ?_⟩, fun i o p ho hp => ?_⟩
    · cases ha
      have hj : j < os.length * 3 := by
        have := (List.getElem?_eq_some_iff.1 hu).1
        rwa [optV_length os ad (by omega)] at this
      have hi : j / 3 < n := by omega
      have hp := List.getElem?_eq_getElem (show j / 3 < ad.length by omega)
      obtain ⟨o, ho, c1, c2, c3, -⟩ := h2 _ _ hp
      obtain ⟨g1, g2, g3⟩ := optV_get os ad _ _ _ ho hp
      have hr : j = j / 3 * 3 ∨ j = j / 3 * 3 + 1 ∨ j = j / 3 * 3 + 2 := by omega
      rcases hr with e | e | e <;> rw [e] at hu ⊢
      · rw [g1] at hu; cases hu; exact c1
      · rw [g2] at hu; cases hu; exact c2
      · rw [g3] at hu; cases hu; exact c3
    · obtain ⟨o', ho', -, -, -, hb⟩ := h2 i p hp
      rw [ho] at ho'; cases ho'
      exact hb
theorem Rs.of_cells {w : World} {ao : Option Addr} {n cap : Nat} {os : List Opt} {ad : List (Option Addr × Nat)} (hs : Sl w ao n cap (optV os ad)) (hl : os.length = n) (hd : ad.length = n) (hb : ∀ (i : Nat) (o : Opt) (p : Option Addr × Nat), os[i]? = some o → ad[i]? = some p → Bs w p.1 o.b.length p.2 o.b) (hc : ∀ o ∈ os, o.cls < 65536) : Rs w ao n cap os := by
  refine ⟨hl.symm, hs.le, hs.capLe, hs.nocap, fun a ha i o ho => ?_, hc⟩
  have hi : i < ad.length := by have := (List.getElem?_eq_some_iff.1 ho).1; omega
  have hp := List.getElem?_eq_getElem hi
  obtain ⟨g1, g2, g3⟩ := optV_get os ad i o _ ho hp
  have c1 := hs.cell a ha _ _ g1
  have c2 := hs.cell a ha _ _ g2
  have c3 := hs.cell a ha _ _ g3
  have hsp := World.cell?_spot c1
  rw [← Addr.add_add, add_of_spot hsp] at c2 c3
  exact ⟨_, _, c1, c2, c3, hb i o _ ho hp⟩
theorem optV_one (os : List Opt) : ∀ ad, ∀ u ∈ optV os ad, u.oneCell' = true := by
  induction os with
  | nil => intro ad u hu; simp [optV] at hu
  | cons o os ih =>
    intro ad u hu
    cases ad with
    | nil => simp [optV] at hu
    | cons p ad =>
      simp only [optV, List.mem_cons] at hu
      rcases hu with rfl | rfl | rfl | hu
      · rfl
      · rfl
      · rfl
      · exact ih ad u hu

/-- append at []api.Option. -/
theorem wpl_append_opts {w : World} {ops : Array Oper} {rest : List Oper} {o : Oper} {a : Act} {Q : Exit → Act → World → Prop} (s x : Operand)
    (hgd : o.guard = none) (hop : o.op = .call { callee := .builtin .append, args := #[s, x], argTypes := #[24, 24] })
    {ao : Option Addr} {n cap : Nat} (hev : a.eval s = .slice ao n cap) {bo : Option Addr} {m c : Nat} (hex : a.eval x = .slice bo m c)
    {xs ys : List Value} (h1 : Own w 38 3 ao n cap xs) (h2 : Sl w bo m c ys) (hy : ys.length = m * 3) (hone : ∀ u ∈ ys, u.oneCell' = true) (hb : n + m ≤ 1000000)
    (hK : ∀ ao' cap' w', Own w' 38 3 ao' (n + m) cap' (xs ++ ys) → Fr (At ao) w w' → (ao' = ao ∨ ∀ a, ao' = some a → w.heap.size ≤ a.block) →
      wpList Try.prog ops Q rest (a.put o.dst (.slice ao' (n + m) cap')) w') :
    wpList Try.prog ops Q (o :: rest) a w := by
  obtain ⟨i0, hi, hz0, hz1, hz2⟩ := info_parts info_opt
  refine wpList_append_U w hgd s x 24 hop 38 i0 _ 3 32 Try.underlying24 hi hz0 hz1 hz2 rfl (by decide) ao n cap hev bo m c hex xs h1 ys h2 hy hone
    (by omega) (by omega) ?_
  intro ao' cap' w' r1 r2 r3 _ r5
  exact hK ao' cap' w' r1 r2 r3

theorem right_nil {w : World} {ao : Option Addr} {n cap : Nat} {os : List Opt} (h : Rs w ao n cap os) (hn : n ≤ 1000) (hr : rightN os = 0) : Calls Try.prog 29 #[.slice ao n cap] w fun e w' => e = .returned .nilIface ∧ Fr No w w' := by
  refine (right_any h hn).mono ?_
  rw [hr]
  rintro e w' (⟨-, rfl, hf⟩ | ⟨h0, -⟩)
  · exact ⟨rfl, hf⟩
  · exact absurd rfl h0
theorem right_err {w : World} {ao : Option Addr} {n cap : Nat} {os : List Opt} (h : Rs w ao n cap os) (hn : n ≤ 1000) {c : Int} (hr : rightN os = c) (hc : c ≠ 0) : Calls Try.prog 29 #[.slice ao n cap] w (IsErr w [geneveS] c) := by
  refine (right_any h hn).mono ?_
  rw [hr]
  rintro e w' (⟨h0, -⟩ | ⟨-, h⟩)
  · exact absurd h0 hc
  · exact h
end Go.Proofs.Ythoppkklooomgaa
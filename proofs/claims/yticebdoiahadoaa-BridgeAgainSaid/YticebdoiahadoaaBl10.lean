/- bridge laws: two bridges; rows of numbers compared. -/
import Derived.Test.YticebdoiahadoaaBl9
namespace Go.Proofs.Yticebdoiahadoaa
open Go.RowKit
set_option linter.unusedVariables false
set_option linter.unusedSimpArgs false

/-- Two bridges that share nothing, and keep off some blocks. -/
def Two (Z : Nat → Prop) (w : World) (ba bb : Nat) (room life : Int) (X Y : AB) : Prop :=
  ∃ A B : BrM, A.bb = ba ∧ B.bb = bb ∧ BrAt w room life A X ∧ BrAt w room life B Y ∧ (∀ i, A.all i → ¬ B.all i) ∧ (∀ i, A.all i → ¬ Z i) ∧ (∀ i, B.all i → ¬ Z i) ∧ ∀ k, Z k → k < w.heap.size
theorem Two.swap {Z : Nat → Prop} {w : World} {ba bb : Nat} {room life : Int} {X Y : AB} (h : Two Z w ba bb room life X Y) : Two Z w bb ba room life Y X := by
  obtain ⟨A, B, h1, h2, h3, h4, h5, h6, h7, h8⟩ := h
  exact ⟨B, A, h2, h1, h4, h3, fun i hi hj => h5 i hj hi, h7, h6, h8⟩
theorem Two.no {Z : Nat → Prop} {w w' : World} {ba bb : Nat} {room life : Int} {X Y : AB} (h : Two Z w ba bb room life X Y) (f : Fr No w w') : Two Z w' ba bb room life X Y := by
  obtain ⟨A, B, h1, h2, h3, h4, h5, h6, h7, h8⟩ := h
  exact ⟨A, B, h1, h2, h3.no f, h4.no f, h5, h6, h7, fun k hk => Nat.lt_of_lt_of_le (h8 k hk) f.size⟩
theorem Two.less {Z Z' : Nat → Prop} {w : World} {ba bb : Nat} {room life : Int} {X Y : AB} (h : Two Z w ba bb room life X Y) (hz : ∀ k, Z' k → Z k) : Two Z' w ba bb room life X Y := by
  obtain ⟨A, B, h1, h2, h3, h4, h5, h6, h7, h8⟩ := h
  exact ⟨A, B, h1, h2, h3, h4, h5, fun i hi hk => h6 i hi (hz i hk), fun i hi hk => h7 i hi (hz i hk), fun k hk => h8 k (hz k hk)⟩
theorem Two.more {Z : Nat → Prop} {w w' : World} {ba bb : Nat} {room life : Int} {X Y : AB} (h : Two Z w ba bb room life X Y) (f : Fr No w w') : Two (fun k => Z k ∨ (w.heap.size ≤ k ∧ k < w'.heap.size)) w' ba bb room life X Y := by
  obtain ⟨A, B, h1, h2, h3, h4, h5, h6, h7, h8⟩ := h
  refine ⟨A, B, h1, h2, h3.no f, h4.no f, h5, fun i hi hk => ?_, fun i hi hk => ?_, fun k hk => ?_⟩
  · rcases hk with hk | hk
    · exact h6 i hi hk
    · have := h3.lt hi; omega
  · rcases hk with hk | hk
    · exact h7 i hi hk
    · have := h4.lt hi; omega
  · rcases hk with hk | hk
    · exact Nat.lt_of_lt_of_le (h8 k hk) f.size
    · exact hk.2
theorem Two.one {Z : Nat → Prop} {w : World} {ba bb : Nat} {room life : Int} {X Y : AB} (h : Two Z w ba bb room life X Y) (o : Obj) : ∃ Z1, Two Z1 (w.alloc o) ba bb room life X Y ∧ (∀ k, Z k → Z1 k) ∧ Z1 w.heap.size :=
  ⟨_, h.more ((Fr.refl No w).alloc o), fun k hk => .inl hk, .inr ⟨Nat.le_refl _, by simp⟩⟩
theorem Two.l {Z : Nat → Prop} {w : World} {ba bb : Nat} {room life : Int} {X Y : AB} (h : Two Z w ba bb room life X Y) : BrZ Z w ba room life X := by
  obtain ⟨A, B, h1, h2, h3, h4, h5, h6, h7, h8⟩ := h
  exact ⟨h8, A, h1, h3, h6⟩
theorem Two.r {Z : Nat → Prop} {w : World} {ba bb : Nat} {room life : Int} {X Y : AB} (h : Two Z w ba bb room life X Y) : BrZ Z w bb room life Y := h.swap.l
theorem Two.stepL {Z : Nat → Prop} {w : World} {ba bb : Nat} {room life : Int} {X Y : AB} (h : Two Z w ba bb room life X Y) : ∃ ZL : Nat → Prop, BrZ ZL w ba room life X ∧ (∀ k, Z k → ZL k) ∧
    ∀ (w' : World) (X' : AB) (po qo : Option Addr), BrZ (fun k => ZL k ∨ At po k ∨ At qo k) w' ba room life X' → Fr (NZ ZL) w w' → (∀ a, po = some a → w.heap.size ≤ a.block) → (∀ a, qo = some a → w.heap.size ≤ a.block) → Two (fun k => Z k ∨ At po k ∨ At qo k) w' ba bb room life X' Y := by
  obtain ⟨A, B, h1, h2, h3, h4, h5, h6, h7, h8⟩ := h
  refine ⟨fun k => Z k ∨ B.all k, ⟨fun k hk => ?_, A, h1, h3, fun i hi hk => ?_⟩, fun k hk => .inl hk, ?_⟩
  · rcases hk with hk | hk
    · exact h8 k hk
    · exact h4.lt hk
  · rcases hk with hk | hk
    · exact h6 i hi hk
    · exact h5 i hi hk
  · intro w' X' po qo hb f np nq
    obtain ⟨g0, A', g1, g2, g3⟩ := hb
    refine ⟨A', B, g1, h2, g2, h4.fr f (fun k hk hn => hn (.inr hk)), fun i hi hk => g3 i hi (.inl (.inr hk)), fun i hi hk => ?_, fun i hi hk => ?_, fun k hk => ?_⟩
    · rcases hk with hk | hk
      · exact g3 i hi (.inl (.inl hk))
      · exact g3 i hi (.inr hk)
    · have hl := h4.lt hi
      rcases hk with hk | ⟨a, ha, rfl⟩ | ⟨a, ha, rfl⟩
      · exact h7 i hi hk
      · have := np a ha; omega
      · have := nq a ha; omega
    · rcases hk with hk | hk
      · exact g0 k (.inl (.inl hk))
      · exact g0 k (.inr hk)
theorem Two.new {w w2 w3 : World} {ba bb : Nat} {room life : Int} {X Y : AB} (h1 : BrZ (fun k => k < w.heap.size) w2 ba room life X) (hf : w.heap.size ≤ w2.heap.size) (h2 : BrZ (fun k => k < w2.heap.size) w3 bb room life Y) (f : Fr No w2 w3) : Two (fun k => k < w.heap.size) w3 ba bb room life X Y := by
  obtain ⟨a0, A, a1, a2, a3⟩ := h1
  obtain ⟨b0, B, b1, b2, b3⟩ := h2
  exact ⟨A, B, a1, b1, a2.no f, b2, fun i hi hj => b3 i hj (a2.lt hi), a3, fun i hi hk => b3 i hi (Nat.lt_of_lt_of_le hk hf), fun k hk => Nat.lt_of_lt_of_le (Nat.lt_of_lt_of_le hk hf) f.size⟩

theorem oi_at {w : World} {ao : Option Addr} {n c : Nat} {zs : List Int} (h : OI w ao n c zs) {j : Nat} {z : Int} (hz : zs[j]? = some z) : ∃ g, ao = some ⟨g, 0, none⟩ ∧ w.cell? ⟨g, j, none⟩ = some (.int .i64 z) := by
  cases ao with
  | none =>
    have h1 := h.2.nocap rfl
    have h2 := h.2.le
    have h3 := h.1
    have := (List.getElem?_eq_some_iff.1 hz).1
    omega
  | some a =>
    obtain ⟨h1, -⟩ := h.2.row a rfl
    have h2 := h.sl.2.cell a rfl j (.int .i64 z) (by rw [List.getElem?_map, hz]; rfl)
    obtain ⟨b, o, sp⟩ := a
    cases h1
    exact ⟨b, rfl, by rw [Addr.add_lit] at h2; simpa using h2⟩
set_option maxRecDepth 100000 in
set_option maxHeartbeats 2000000 in
/-- The same row, twice. -/
theorem l16ints_same {w : World} {ao bo : Option Addr} {n c d : Nat} {zs : List Int} (ha : OI w ao n c zs) (hb : OI w bo n d zs) : Calls Try.prog 30 #[.slice ao n c, .slice bo n d] w fun e w' => e = .returned (.bool true) ∧ Fr No w w' := by
  have HA := Lib.hid ha
  have HB := Lib.hid hb
  have hl := ha.1
  have hc1 := ha.2.le
  have hc2 := ha.2.capLe
  have hd1 := hb.2.le
  have nn : ((n : Int) != (n : Int)) = false := by simp
  have HL := Lib.hid hl
  clear ha hb hl
  go_enter Try.func30, Try.ntmps30
  go_wp2_with fail
  clear nn
  go_loopw [5] (fun t5 wr => ∃ j : Nat, j ≤ n ∧ t5 = .int .i64 j ∧ Fr No w wr) (fun t5 _ => n - (intOf t5).toNat)
  case atStart => exact ⟨0, by omega, rfl, Fr.refl _ _⟩
  case round =>
    obtain ⟨j, hj, rfl, f1⟩ := hrel
    have F1 := Lib.hid f1
    by_cases hjn : j < n
    · obtain ⟨z, hz⟩ : ∃ z, zs[j]? = some z := ⟨zs[j]'(by rw [← HL.out]; exact hjn), List.getElem?_eq_getElem _⟩
      obtain ⟨g1, hg1, x1⟩ := oi_at (HA.out.no f1) hz
      obtain ⟨g2, hg2, x2⟩ := oi_at (HB.out.no f1) hz
      subst hg1
      subst hg2
      have j1 : (j : Int) < (n : Int) := by omega
      have j0 : (0 : Int) ≤ (j : Int) := by omega
      have zz : (z != z) = false := by simp
      clear hz f1
      go_wp2_with fail
      go_quiet (fail)
      clear zz
      go_wp2_with fail
      go_roundw
      case rel => exact ⟨j + 1, by omega, by go_num, F1.out.drewN _⟩
      case measure => simp [intOf]; omega
    · have hj2 : j = n := by omega
      clear hj2 f1
      go_wp2_with fail
      go_ret
      exact ⟨rfl, F1.out⟩
end Go.Proofs.Yticebdoiahadoaa
